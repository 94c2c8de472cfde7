/- The form of a row that a call has made. Plain: rows of moves as lists; insertion by From, falling. The sort of moves by From, falling: by the kit's walk. SortStableFunc at moves, Compact of touches, by the kit's walk. slices.IndexFunc at moves: whatever the predicate, by the kit's walk. stays of the program, by the kit's walk. The ways of safe moves asked for a letter: IndexFunc and ContainsFunc, by the kit's walk. stays, by the kit's walk. slices.ContainsFunc at moves: whatever the predicate, by the kit's walk. Plain: the canonical form of a loose play, as lists of moves. slices.Compact at this program, by the shelf's contract; the closures of canonical. Rows of moves: copied, appended onto an empty row; the reference's sort: by the kit's walk. canonical of the program, by the kit's walk. -/
import Derived.Test.YthlmjjdlmidnlaaGreatDoorArVau
import Derived.Deep.RegionWith
import Derived.Deep.RegionHeld3
import Derived.Deep.DeepCutAuto
import Derived.BigRegion
import Derived.Deep.QuietTactic
import Derived.BigQuiet
import Derived.Lib.SlicesCompact
import Derived.Lib.Strings
import Derived.Shelf.SlIterI.Nil
import Derived.Shelf.SortM.Plain
import Derived.Shelf.SortM.SortNone
import Derived.Ground.GgzProg
import Derived.Ground.SlgmProg
import Derived.Test.YthlmjjdlmidnlaaGreatDoorProg
import Derived.Lib.Hide
import Derived.Shelf.Slices.CompactI
import Derived.Lib.OwnBridge
import Derived.Laws.CopyOwn
import Derived.Test.YthlmjjdlmidnlaaGreatDoorArOu
namespace Go.Proofs.Tryz
open Go Go.Am Go.RowKit Go.Dr
set_option maxRecDepth 100000

theorem own_form {w : World} {base : Nat} {e : TypeId} {n : Nat} {v : Value} {xs : List Value} (h : w.ownsRow base e 1 v n xs) : ∃ a c, v = .slice a n c ∧ (n = 0 ∨ ∃ g, a = some ⟨g, 0, none⟩) := by
  rcases h.2 with ⟨rfl, h2⟩ | ⟨g, cap, cur, rfl, -⟩
  · have h1 := h.1
    rw [h2] at h1
    have e0 : n = 0 := by simp at h1; omega
    subst e0
    exact ⟨_, _, rfl, .inl rfl⟩
  · exact ⟨_, _, rfl, .inr ⟨g, rfl⟩⟩
end Go.Proofs.Tryz

namespace Go.Proofs.Tryz
open Go Go.Am Go.RowKit Go.Dr
set_option maxRecDepth 100000

/-- A move's five cells. -/
structure M5 where
  f1 : Int
  f2 : Int
  xb : Bool
  s : ByteArray
  a : Option Addr
  k : Nat
  c : Nat
def M5.vals (m : M5) : List Value := [.int .i64 m.f1, .int .i64 m.f2, .bool m.xb, .string m.s, .slice m.a m.k m.c]
def flat (l : List M5) : List Value := l.flatMap M5.vals
theorem flat_cons (m : M5) (l : List M5) : flat (m :: l) = .int .i64 m.f1 :: .int .i64 m.f2 :: .bool m.xb :: .string m.s :: .slice m.a m.k m.c :: flat l := rfl
theorem flat_append (x y : List M5) : flat (x ++ y) = flat x ++ flat y := by simp [flat]
theorem length_flat : ∀ l : List M5, (flat l).length = 5 * l.length
  | [] => rfl
  | m :: l => by simp only [flat_cons, List.length_cons, length_flat l]; omega
theorem flat_get : ∀ {l : List M5} {i : Nat} {m : M5}, l[i]? = some m → (flat l)[5 * i]? = some (.int .i64 m.f1) ∧ (flat l)[5 * i + 1]? = some (.int .i64 m.f2) ∧ (flat l)[5 * i + 2]? = some (.bool m.xb) ∧ (flat l)[5 * i + 3]? = some (.string m.s) ∧ (flat l)[5 * i + 4]? = some (.slice m.a m.k m.c)
  | [], i, m, h => by simp at h
  | x :: l, 0, m, h => by
    simp only [List.getElem?_cons_zero, Option.some.injEq] at h; subst h
    exact ⟨rfl, rfl, rfl, rfl, rfl⟩
  | x :: l, i + 1, m, h => by
    simp only [List.getElem?_cons_succ] at h
    obtain ⟨h0, h1, h2, h3, h4⟩ := flat_get h
    rw [flat_cons]
    refine ⟨?_, ?_, ?_, ?_, ?_⟩
    · rw [show 5 * (i + 1) = 5 * i + 5 by omega]; simpa using h0
    · rw [show 5 * (i + 1) + 1 = 5 * i + 1 + 5 by omega]; simpa using h1
    · rw [show 5 * (i + 1) + 2 = 5 * i + 2 + 5 by omega]; simpa using h2
    · rw [show 5 * (i + 1) + 3 = 5 * i + 3 + 5 by omega]; simpa using h3
    · rw [show 5 * (i + 1) + 4 = 5 * i + 4 + 5 by omega]; simpa using h4
/-! ### insertion -/
def key (l : List M5) (p : Nat) : Int := ((l[p]?).map M5.f1).getD 0
end Go.Proofs.Tryz

namespace Go.Proofs.Tryz
open Go Go.Am Go.RowKit Go.Dr
set_option maxRecDepth 100000

end Go.Proofs.Tryz

namespace Go.Proofs.Tryz
open Go Go.Am Go.RowKit Go.Dr
set_option maxRecDepth 100000

end Go.Proofs.Tryz

namespace Go.Proofs.Tryz
open Go Go.Am Go.RowKit Go.Dr
set_option maxRecDepth 100000

def anyK (p : Nat → Bool) : Nat → Bool
  | 0 => false
  | i + 1 => anyK p i || p i
end Go.Proofs.Tryz

namespace Go.Proofs.Tryz
open Go Go.Am Go.RowKit Go.Dr
set_option maxRecDepth 100000

end Go.Proofs.Tryz

namespace Go.Proofs.Tryz
open Go Go.Am Go.RowKit Go.Dr
set_option maxRecDepth 100000

end Go.Proofs.Tryz

namespace Go.Proofs.Tryz
open Go Go.Am Go.RowKit Go.Dr
set_option maxRecDepth 100000

end Go.Proofs.Tryz

namespace Go.Proofs.Tryz
open Go Go.Am Go.RowKit Go.Dr
set_option maxRecDepth 100000

end Go.Proofs.Tryz

namespace Go.Proofs.Tryz
open Go Go.Am Go.RowKit Go.Dr
set_option maxRecDepth 100000

/-! ### the touches -/
/-- The touches of a move. -/
def tchs (m : MvD) : List Int := intsL m.t m.bo m.bn.toNat
/-- The touches without neighbours that are the same. -/
def plT (m : MvD) : List Int := Lib.compact (tchs m)
/-- The move with plain touches. -/
def plainM (m : MvD) : MvD := { m with t := tl (plT m), bo := 0, bn := ((plT m).length : Nat) }
theorem intsL_tl (l : List Int) : intsL (tl l) 0 l.length = l := by
  apply List.ext_getElem?
  intro j
  by_cases hj : j < l.length
  · rw [intsL_get hj]
    simp [tl, hj]
  · rw [List.getElem?_eq_none (by rw [length_intsL]; omega), List.getElem?_eq_none (by omega)]
/-! ### who stays -/
/-! ### moves in cells and as data -/
/-- A move's cells hold it; its touches lie somewhere. -/
def M5Ok (w : World) (c : M5) (m : MvD) : Prop := c.f1 = m.fr ∧ c.f2 = m.to ∧ c.xb = decide (m.x ≠ 0) ∧ IsStr (.string c.s) m.y m.so m.sn ∧ IsInts w (.slice c.a c.k c.c) m.t m.bo m.bn
/-- The same, its touches in a row of the call's own. -/
def M5Own (w : World) (base : Nat) (c : M5) (m : MvD) : Prop := c.f1 = m.fr ∧ c.f2 = m.to ∧ c.xb = decide (m.x ≠ 0) ∧ IsStr (.string c.s) m.y m.so m.sn ∧ w.ownsRow base 3 1 (.slice c.a c.k c.c) m.bn.toNat (vsOf (tchs m)) ∧ 0 ≤ m.bn
theorem M5Ok.below {w W : World} {c : M5} {m : MvD} (h : M5Ok w c m) (hb : Below w.heap.size w W) : M5Ok W c m := ⟨h.1, h.2.1, h.2.2.1, h.2.2.2.1, h.2.2.2.2.below hb⟩
theorem M5Own.below {w W : World} {base : Nat} {c : M5} {m : MvD} (h : M5Own w base c m) (hb : Below w.heap.size w W) : M5Own W base c m := ⟨h.1, h.2.1, h.2.2.1, h.2.2.2.1, owns_below h.2.2.2.2.1 hb, h.2.2.2.2.2⟩
theorem M5Own.ok {w : World} {base : Nat} {c : M5} {m : MvD} (h : M5Own w base c m) : M5Ok w c m := by
  refine ⟨h.1, h.2.1, h.2.2.1, h.2.2.2.1, ?_⟩
  have := intsOf h.2.2.2.2.1
  rw [Int.toNat_of_nonneg h.2.2.2.2.2] at this
  exact this
/-- Two lists, one element beside the other. -/
inductive F2 {α β : Type} (R : α → β → Prop) : List α → List β → Prop
  | nil : F2 R [] []
  | cons {a : α} {b : β} {l : List α} {m : List β} (h : R a b) (t : F2 R l m) : F2 R (a :: l) (b :: m)
theorem F2.len {α β : Type} {R : α → β → Prop} {l : List α} {m : List β} (h : F2 R l m) : l.length = m.length := by
  induction h with
  | nil => rfl
  | cons _ _ ih => simp [ih]
theorem F2.imp {α β : Type} {R S : α → β → Prop} {l : List α} {m : List β} (h : F2 R l m) (f : ∀ a b, R a b → S a b) : F2 S l m := by
  induction h with
  | nil => exact .nil
  | cons h _ ih => exact .cons (f _ _ h) ih
theorem F2.at {α β : Type} {R : α → β → Prop} {l : List α} {m : List β} (h : F2 R l m) : ∀ {i : Nat} {a : α}, l[i]? = some a → ∃ b, m[i]? = some b ∧ R a b := by
  induction h with
  | nil => intro i a e; simp at e
  | cons h _ ih =>
    intro i a e
    cases i with
    | zero => simp only [List.getElem?_cons_zero, Option.some.injEq] at e; subst e; exact ⟨_, rfl, h⟩
    | succ i => simp only [List.getElem?_cons_succ] at e ⊢; exact ih e
/-- A list of moves' data as a function. -/
def dOf (L : List MvD) (i : Nat) : MvD := L[i]?.getD noM
theorem moves_flat {w : World} {base k : Nat} {v : Value} {l : List M5} {L : List MvD} (hrow : w.ownsRow base 27 5 v k (flat l)) (h : F2 (M5Ok w) l L) : k = L.length ∧ IsMoves w v (dOf L) L.length := by
  have hlen := h.len
  have hk : k = L.length := by have := hrow.1; rw [length_flat] at this; omega
  subst hk
  refine ⟨rfl, ?_⟩
  rcases hrow.2 with ⟨rfl, hn⟩ | ⟨g, cap, cur, rfl, h1, h2, h3, h4, h5, h6⟩
  · rw [hn]
    exact ⟨none, 0, rfl, Nat.le_refl _, fun q => absurd rfl q⟩
  · refine ⟨_, cap, rfl, h3, fun _ => ⟨g, 0, rfl, fun i hi => ?_⟩⟩
    obtain ⟨c, hc⟩ : ∃ c, l[i]? = some c := ⟨_, List.getElem?_eq_getElem (by omega)⟩
    obtain ⟨m, hm, r1, r2, r3, r4, r5⟩ := h.at hc
    obtain ⟨e0, e1, e2, e3, e4⟩ := flat_get hc
    have c : ∀ k, k < 5 → w.cell? ⟨g, 5 * i + k, none⟩ = (flat l)[5 * i + k]? := fun k hk => hrow.cellAt _ (by omega)
    have ed : dOf L i = m := by unfold dOf; rw [hm]; rfl
    rw [ed]
    refine ⟨_, _, ?_, r4, r5⟩
    simp only [cellsAt, Nat.zero_add]
    have c0 := c 0 (by omega)
    rw [Nat.add_zero] at c0
    rw [show (5 * i + 1 + 1 : Nat) = 5 * i + 2 from rfl, show (5 * i + 2 + 1 : Nat) = 5 * i + 3 from rfl, show (5 * i + 3 + 1 : Nat) = 5 * i + 4 from rfl, c0, c 1 (by omega), c 2 (by omega), c 3 (by omega), c 4 (by omega), e0, e1, e2, e3, e4, r1, r2, r3]
    rfl
/-! ### the order -/
/-- Two moves of the same runner. -/
def DupD (d : Nat → MvD) (n : Nat) : Prop := ∃ j i, j < i ∧ i < n ∧ (d j).fr = (d i).fr
/-! ### the canonical form -/
/-- Too large. -/
def BigC (yn : Int) (d : Nat → MvD) (n : Nat) : Prop := 24 < yn ∨ 4 < n ∨ anyK (fun i => decide (36 < (d i).bn)) n = true
instance (yn : Int) (d : Nat → MvD) (n : Nat) : Decidable (BigC yn d n) := inferInstanceAs (Decidable (_ ∨ _ ∨ _))
theorem dup_iff (d : Nat → MvD) (n : Nat) : DupD d n ↔ ∃ i, i < n ∧ ∃ j, j < i ∧ (d j).fr = (d i).fr :=
  ⟨fun ⟨j, i, h1, h2, h3⟩ => ⟨i, h2, j, h1, h3⟩, fun ⟨i, h2, j, h1, h3⟩ => ⟨j, i, h1, h2, h3⟩⟩
instance (d : Nat → MvD) (n : Nat) : Decidable (DupD d n) := decidable_of_iff _ (dup_iff d n).symm
end Go.Proofs.Tryz

namespace Go.Proofs
open Go.Shelf
end Go.Proofs
namespace Go.Proofs.Tryz
open Go Go.Am Go.RowKit Go.Dr
set_option maxRecDepth 100000

/-! ### the row of a play's moves, asked -/
section
variable {w : World} {ad : Option Addr} {n c : Nat} {d : Nat → MvD}
end

/-- The moves of a row as cells. -/
theorem m5_of {w : World} {b off n : Nat} {d : Nat → MvD} (hM : ∀ i, i < n → IsMv w (cellsAt w b (off + 5 * i) 5) (d i)) : ∃ f : Nat → M5, ∀ i, i < n → cellsAt w b (off + 5 * i) 5 = (f i).vals.map some ∧ M5Ok w (f i) (d i) := by
  have hx : ∀ i, ∃ m : M5, i < n → cellsAt w b (off + 5 * i) 5 = m.vals.map some ∧ M5Ok w m (d i) := fun i => by
    by_cases hi : i < n
    · obtain ⟨f1, f2, xb, s, a, k, c, e1, e2, h1, h2, h3, h4, h5⟩ := cs_of (hM i hi)
      refine ⟨⟨f1, f2, xb, s, a, k, c⟩, fun _ => ⟨?_, h1.symm, h2.symm, h3.symm, h4, h5⟩⟩
      rw [e2, e1]; rfl
    · exact ⟨⟨0, 0, false, ⟨#[]⟩, none, 0, 0⟩, fun q => absurd q hi⟩
  exact ⟨fun i => (hx i).choose, fun i => (hx i).choose_spec⟩
end Go.Proofs.Tryz

namespace Go.Proofs.Tryz
open Go Go.Am Go.RowKit Go.Dr
set_option maxRecDepth 100000

end Go.Proofs.Tryz

namespace Go.Proofs.Tryz
open Go Go.Am Go.RowKit Go.Dr
set_option maxRecDepth 100000

/-- A play's data. -/
structure PlD where
  s1 : ByteArray
  s2 : ByteArray
  lx : Bool
  L : List MvD
def zeroP : PlD := ⟨⟨#[]⟩, ⟨#[]⟩, false, []⟩
theorem chk_b {w : World} {y0 y1 : Int → Int} {yo yn eo en : Int} {d : Nat → MvD} {n : Nat} {pvv ev mv : Value} (b : Bool) (h : Laid w) (hp : IsStr pvv y0 yo yn) (he : IsStr ev y1 eo en) (hm : IsMoves w mv d n) :
    Chk w (.agg #[pvv, ev, .bool b, mv]) (plV y0 yo yn y1 eo en d n) := by
  cases b
  · exact chk_of (lx := 0) h hp he hm
  · exact chk_of (lx := 1) h hp he hm

/-- The moves of a play on the way to the canonical form: i are done. -/
structure LoopC (wr : World) (base : Nat) (f : Nat → M5) (d : Nat → MvD) (ys : List Nat) (i : Nat) (l : List M5) : Prop where
  len : l.length = ys.length
  done : ∀ j k, j < i → ys[j]? = some k → ∃ c, l[j]? = some c ∧ M5Own wr base c (plainM (d k))
  left : ∀ j k, i ≤ j → ys[j]? = some k → l[j]? = some (f k)
  adj : ∀ j a b, j + 1 < i → ys[j]? = some a → ys[j + 1]? = some b → (d a).fr ≠ (d b).fr
section
variable {w : World} {y0 y1 : Int → Int} {yo yn eo en : Int} {lx : Bool} {d : Nat → MvD} {n : Nat} {s1 s2 : ByteArray} {ad : Option Addr} {c : Nat}
end
end Go.Proofs.Tryz
