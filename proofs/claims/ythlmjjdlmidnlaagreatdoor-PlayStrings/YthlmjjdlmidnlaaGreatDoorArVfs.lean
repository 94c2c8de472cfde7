/- The copy of a play: CopyPlay and copied. moveOf, MoveOf, and what two moves or two lists are compared with, by the kit's walk. Putouts of both sides, the reference's MoveOf, and the comparisons of moves and lists, by the kit's walk. Plain: the assists, as the keys of a map and as a list. Short as a statement, Touches of whatever play, awake: by the kit's walk. kept at moves: whatever the predicate, by the kit's walk. Outs, Runs and Advances of the program, by the kit's walk. Plain: what holds of a valid play's moves, one by one, and of the sums over them. -/
import Derived.Test.YthlmjjdlmidnlaaGreatDoorArVa
import Derived.Maps.AppendAt
import Derived.Test.YthlmjjdlmidnlaaGreatDoorArV3
import Derived.Lib.SlKeysI
import Derived.Maps.Views
import Derived.Maps.OwnSet
import Derived.Shelf.SlIterI.Nil
import Derived.Shelf.SortM.Plain
import Derived.Shelf.SortM.SortNone
import Derived.Ground.GgzProg
import Derived.Ground.SlgmProg
import Derived.Test.YthlmjjdlmidnlaaGreatDoorProg
import Derived.Lib.Hide
import Derived.Test.YthlmjjdlmidnlaaGreatDoorArZc
namespace Go.Proofs.Tryz
open Go Go.Am Go.RowKit Go.Dr
set_option maxRecDepth 100000

/-- The four cells of a play's block. -/
theorem box4 {w : World} {b : Nat} {v0 v1 v2 v3 : Value} {e : TypeId} (h : w.heap[b]? = some (.cells #[v0, v1, v2, v3] e (0, 0))) :
    (w.cell? ⟨b, 0, none⟩ = some v0 ∧ w.cell? ⟨b, 1, none⟩ = some v1 ∧ w.cell? ⟨b, 2, none⟩ = some v2 ∧ w.cell? ⟨b, 3, none⟩ = some v3) ∧ w.frozen? ⟨b, 0, none⟩ = false ∧ w.frozen? ⟨b, 1, none⟩ = false ∧ w.frozen? ⟨b, 2, none⟩ = false ∧ w.frozen? ⟨b, 3, none⟩ = false := by
  refine ⟨⟨?_, ?_, ?_, ?_⟩, ?_, ?_, ?_, ?_⟩ <;> simp [World.cell?, World.frozen?, h]

section
variable {w : World} {lx : Bool} {d : Nat → MvD} {n : Nat} {s1 s2 : ByteArray} {mv : Value}
theorem copyPlay_w (hm : IsMoves w mv d n) (hn : n ≤ 6) (hb : ∀ i, i < n → (d i).bn ≤ 40) :
    Calls prog 73 #[.agg #[.string s1, .string s2, .bool lx, mv]] w fun e w' => ∃ v, e = .returned (.agg #[.string s1, .string s2, .bool lx, v]) ∧ OwnMoves w' w.heap.size v d n ∧ Below w.heap.size w w' := by
  obtain ⟨a0, c0, rfl, hnc, hM0⟩ := hm
  have hB : Below w.heap.size w ((w.alloc (.cells #[.string s1, .string s2, .bool lx, .slice a0 n c0] 24)).alloc (.cells #[.string ⟨#[]⟩, .string ⟨#[]⟩, .bool false, .slice none 0 0] 24)) := ((Below.refl _ _).alloc (Nat.le_refl _) _).alloc (by simp) _
  have cM := copyMoves_w (IsMoves.below ⟨a0, c0, rfl, hnc, hM0⟩ hB) hn hb
  clear hM0
  go_enter func73, ntmps73
  go_wp2_with (first
    | (go_at_call 19; refine cM.mono ?_; rintro e w2 ⟨v, rfl, hv, hk2⟩; obtain ⟨a1, k1, c1, rfl⟩ := hv.slice; obtain ⟨⟨x0, x1, x2, x3⟩, f0, f1, f2, f3⟩ := box4 ((hk2.block w.heap.size (by rw [size2]; omega)).trans (al2_0 _ _ _)); obtain ⟨⟨z0, z1, z2, z3⟩, g0, g1, g2, g3⟩ := box4 ((hk2.block (w.heap.size + 1) (by rw [size2]; omega)).trans (al2_1 _ _ _)))
    | go_in)
  have hB2 : Below w.heap.size w w2 := hB.trans (hk2.mono (by rw [size2]; omega))
  have hsz : w.heap.size + 2 ≤ w2.heap.size := by have := hk2.size; rw [size2] at this; exact this
  rw [size2] at hv
  have hv' := ((((hv.setCell (a := ⟨w.heap.size, 3, none⟩) (by simp) (.slice a1 k1 c1)).setCell (a := ⟨w.heap.size + 1, 0, none⟩) (by simp) (.string s1)).setCell (a := ⟨w.heap.size + 1, 1, none⟩) (by simp) (.string s2)).setCell (a := ⟨w.heap.size + 1, 2, none⟩) (by simp) (.bool lx)).setCell (a := ⟨w.heap.size + 1, 3, none⟩) (by simp) (.slice a1 k1 c1)
  refine bodyPost_ret (v := .agg #[.string s1, .string s2, .bool lx, .slice a1 k1 c1]) (by simp [results, results73, go_sem, World.cell?_setCell_same, z0, z1, z2, z3]) rfl ⟨_, rfl, hv'.mono (by omega), ((((hB2.setCell (p := ⟨w.heap.size, 3, none⟩) (by simp) _).setCell (p := ⟨w.heap.size + 1, 0, none⟩) (by simp) _).setCell (p := ⟨w.heap.size + 1, 1, none⟩) (by simp) _).setCell (p := ⟨w.heap.size + 1, 2, none⟩) (by simp) _).setCell (p := ⟨w.heap.size + 1, 3, none⟩) (by simp) _⟩

theorem copied_w (hm : IsMoves w mv d n) (hn : n ≤ 6) (hb : ∀ i, i < n → (d i).bn ≤ 40) :
    Calls prog 16 #[.agg #[.string s1, .string s2, .bool lx, mv]] w fun e w' => ∃ v, e = .returned (.agg #[.string s1, .string s2, .bool lx, v]) ∧ IsMoves w' v d n ∧ Below w.heap.size w w' := by
  obtain ⟨a0, c0, rfl, hnc, hM0⟩ := hm
  have hB : Below w.heap.size w ((w.alloc (.cells #[.string s1, .string s2, .bool lx, .slice a0 n c0] 24)).alloc (.cells #[.string ⟨#[]⟩, .string ⟨#[]⟩, .bool false, .slice none 0 0] 24)) := ((Below.refl _ _).alloc (Nat.le_refl _) _).alloc (by simp) _
  have cM := copyPlay_w (s1 := s1) (s2 := s2) (lx := lx) (IsMoves.below ⟨a0, c0, rfl, hnc, hM0⟩ hB) hn hb
  clear hM0
  go_enter func16, ntmps16
  go_wp2_with (first
    | (go_at_call 73; refine cM.mono ?_; rintro e w2 ⟨v, rfl, hv, hk2⟩; obtain ⟨a1, k1, c1, rfl⟩ := hv.slice; obtain ⟨⟨x0, x1, x2, x3⟩, f0, f1, f2, f3⟩ := box4 ((hk2.block w.heap.size (by rw [size2]; omega)).trans (al2_0 _ _ _)); obtain ⟨⟨z0, z1, z2, z3⟩, g0, g1, g2, g3⟩ := box4 ((hk2.block (w.heap.size + 1) (by rw [size2]; omega)).trans (al2_1 _ _ _)))
    | go_in)
  have hB2 : Below w.heap.size w w2 := hB.trans (hk2.mono (by rw [size2]; omega))
  rw [size2] at hv
  have hv' := (((hv.setCell (a := ⟨w.heap.size + 1, 0, none⟩) (by simp) (.string s1)).setCell (a := ⟨w.heap.size + 1, 1, none⟩) (by simp) (.string s2)).setCell (a := ⟨w.heap.size + 1, 2, none⟩) (by simp) (.bool lx)).setCell (a := ⟨w.heap.size + 1, 3, none⟩) (by simp) (.slice a1 k1 c1)
  refine bodyPost_ret (v := .agg #[.string s1, .string s2, .bool lx, .slice a1 k1 c1]) (by simp [results, results16, go_sem, World.cell?_setCell_same, z0, z1, z2, z3]) rfl ⟨_, rfl, hv'.is, (((hB2.setCell (p := ⟨w.heap.size + 1, 0, none⟩) (by simp) _).setCell (p := ⟨w.heap.size + 1, 1, none⟩) (by simp) _).setCell (p := ⟨w.heap.size + 1, 2, none⟩) (by simp) _).setCell (p := ⟨w.heap.size + 1, 3, none⟩) (by simp) _⟩
end
end Go.Proofs.Tryz

namespace Go.Proofs.Tryz
open Go Go.Am Go.RowKit Go.Dr
set_option maxRecDepth 100000

/-- A block as it lies. -/
def At (w : World) (b : Nat) (cs : Array Value) (e : TypeId) : Prop := w.heap[b]? = some (.cells cs e (0, 0))
theorem At.below {w W : World} {b : Nat} {cs : Array Value} {e : TypeId} (h : At w b cs e) {B : Nat} (hb : Below B w W) (hB : b < B) : At W b cs e := (hb.block b hB).trans h
theorem At.alloc {w : World} {b : Nat} {cs : Array Value} {e : TypeId} (h : At w b cs e) (o : Obj) : At (w.alloc o) b cs e := old1 h o
theorem At.lt {w : World} {b : Nat} {cs : Array Value} {e : TypeId} (h : At w b cs e) : b < w.heap.size := lt_of_block h
theorem at2_0 (w : World) (A Z : Array Value) (e f : TypeId) : At ((w.alloc (.cells A e)).alloc (.cells Z f)) w.heap.size A e := al2_0 _ _ _
theorem at2_1 (w : World) (A Z : Array Value) (e f : TypeId) : At ((w.alloc (.cells A e)).alloc (.cells Z f)) (w.heap.size + 1) Z f := al2_1 _ _ _
theorem at_new (w : World) (A : Array Value) (e : TypeId) : At (w.alloc (.cells A e)) w.heap.size A e := heap_alloc_new _ _
theorem At.setCell {w : World} {b : Nat} {cs : Array Value} {e : TypeId} (h : At w b cs e) {a : Addr} (ha : b ≠ a.block) (u : Value) : At (w.setCell a u) b cs e := (Below.heap_setCell _ _ _ _ ha).trans h
theorem At.drew {w : World} {b : Nat} {cs : Array Value} {e : TypeId} (h : At w b cs e) : At w.drew b cs e := h
theorem box5 {w : World} {b : Nat} {v0 v1 v2 v3 v4 : Value} {e : TypeId} (h : At w b #[v0, v1, v2, v3, v4] e) :
    (w.cell? ⟨b, 0, none⟩ = some v0 ∧ w.cell? ⟨b, 1, none⟩ = some v1 ∧ w.cell? ⟨b, 2, none⟩ = some v2 ∧ w.cell? ⟨b, 3, none⟩ = some v3 ∧ w.cell? ⟨b, 4, none⟩ = some v4) ∧ w.frozen? ⟨b, 0, none⟩ = false ∧ w.frozen? ⟨b, 1, none⟩ = false ∧ w.frozen? ⟨b, 2, none⟩ = false ∧ w.frozen? ⟨b, 3, none⟩ = false ∧ w.frozen? ⟨b, 4, none⟩ = false := by
  unfold At at h
  refine ⟨⟨?_, ?_, ?_, ?_, ?_⟩, ?_, ?_, ?_, ?_, ?_⟩ <;> simp [World.cell?, World.frozen?, h]

theorem At.set {w : World} {b : Nat} {cs : Array Value} {e : TypeId} (h : At w b cs e) (i : Nat) (u : Value) : At (w.setCell ⟨b, i, none⟩ u) b (cs.setIfInBounds i u) e := by
  unfold At at h ⊢
  have hb := lt_of_block h
  simp only [World.setCell, Array.getElem?_modify, h]
  simp
/-- A play's check, in whatever later world. -/
def Chk (w : World) (p : Value) (pl : Int) : Prop := ∀ W, Below w.heap.size w W → Calls prog 15 #[p] W fun e w' => e = .returned (.int .i64 pl) ∧ Below W.heap.size W w'
theorem chk_of {w : World} {y0 y1 : Int → Int} {yo yn eo en lx : Int} {d : Nat → MvD} {n : Nat} {pvv ev mv : Value} (h : Laid w) (hp : IsStr pvv y0 yo yn) (he : IsStr ev y1 eo en) (hm : IsMoves w mv d n) :
    Chk w (.agg #[pvv, ev, .bool (decide (lx ≠ 0)), mv]) (plV y0 yo yn y1 eo en d n) := fun _ hb => chk_w (h.below hb) hp he (hm.below hb)

section
variable {w : World} {pl x : Int} {lx : Bool} {pvv ev : Value} {ad0 : Option Addr} {n c : Nat}
end
end Go.Proofs.Tryz

namespace Go.Proofs.Tryz
open Go Go.Am Go.RowKit Go.Dr
set_option maxRecDepth 100000

section
variable {w : World} {pl x : Int} {lx : Bool} {pvv ev : Value} {ad0 : Option Addr} {n c : Nat}
end

end Go.Proofs.Tryz

namespace Go.Proofs.Tryz
open Go Go.Am Go.RowKit Go.Dr
set_option maxRecDepth 100000

section
variable (t : Int → Int) (o : Int)
end
end Go.Proofs.Tryz

namespace Go.Proofs.Tryz
open Go Go.Am Go.RowKit Go.Dr
set_option maxRecDepth 100000

/-- A play that Short takes. -/
def ShortP (yn en : Int) (d : Nat → MvD) (n : Nat) : Prop := yn ≤ 26 ∧ en ≤ 20 ∧ n ≤ 6 ∧ ∀ i, i < n → (d i).sn ≤ 20 ∧ (d i).bn ≤ 40
def ShortR (yn en : Int) (d : Nat → MvD) (n : Nat) (e : Ending) : Prop := ∃ r : Bool, e = .returned (.bool r) ∧ (r = true ↔ ShortP yn en d n)
theorem str_size {s : ByteArray} {y : Int → Int} {o n : Int} (h : IsStr (.string s) y o n) : (s.size : Int) = n := by
  obtain ⟨l, e, h1, -⟩ := h
  cases e
  rw [← h1]
  show ((l.toArray.size : Nat) : Int) = _
  simp

section
variable {w : World} {y0 y1 : Int → Int} {yo yn eo en : Int} {lx : Bool} {d : Nat → MvD} {n : Nat} {s1 s2 : ByteArray} {mv : Value}
theorem shortR_w (hp : IsStr (.string s1) y0 yo yn) (he : IsStr (.string s2) y1 eo en) (hm : IsMoves w mv d n) :
    Calls prog 14 #[.agg #[.string s1, .string s2, .bool lx, mv]] w fun e w' => ShortR yn en d n e ∧ Below w.heap.size w w' := by
  have e1 := str_size hp
  have e2 := str_size he
  obtain ⟨ad0, c0, rfl, hnc, hM0⟩ := hm
  have al := (Below.refl w.heap.size w).alloc (Nat.le_refl _) (.cells #[.string s1, .string s2, .bool lx, .slice ad0 n c0] 24)
  by_cases h1 : (26 : Int) < (s1.size : Int)
  · have hno : ¬ ShortP yn en d n := fun h => by have := h.1; omega
    clear e1 e2
    go_enter func14, ntmps14
    go_wp2
    go_ret
    exact ⟨⟨false, rfl, fun h => (by cases h), fun h => absurd h hno⟩, al⟩
  by_cases h2 : (20 : Int) < (s2.size : Int)
  · have hno : ¬ ShortP yn en d n := fun h => by have := h.2.1; omega
    clear e1 e2
    go_enter func14, ntmps14
    go_wp2
    go_ret
    exact ⟨⟨false, rfl, fun h => (by cases h), fun h => absurd h hno⟩, al⟩
  by_cases h3 : (6 : Int) < (n : Int)
  · have hno : ¬ ShortP yn en d n := fun h => by have := h.2.2.1; omega
    clear e1 e2
    go_enter func14, ntmps14
    go_wp2
    go_ret
    exact ⟨⟨false, rfl, fun h => (by cases h), fun h => absurd h hno⟩, al⟩
  have h12 : yn ≤ 26 ∧ en ≤ 20 := ⟨by omega, by omega⟩
  clear e1 e2
  go_enter func14, ntmps14
  go_wp2
  go_loopw [2, 3] (fun r s wr => ∃ i : Nat, i ≤ n ∧ s = .int .i64 i ∧ r = .bool false ∧ (∀ j, j < i → (d j).sn ≤ 20 ∧ (d j).bn ≤ 40) ∧ At wr w.heap.size #[.string s1, .string s2, .bool lx, .slice ad0 n c0] 24 ∧ Below w.heap.size w wr) (fun _ s _ => n - (numOf' s).toNat)
  case atStart => exact ⟨0, Nat.zero_le _, rfl, rfl, fun j hj => by omega, at_new _ _ _, al⟩
  case round =>
    obtain ⟨i, hi, rfl, rfl, hall, hbox, hbel⟩ := hrel
    have hc3 : wr.cell? ⟨w.heap.size, 3, none⟩ = some (.slice ad0 n c0) := (box4 hbox).1.2.2.2
    by_cases hin : i < n
    · obtain ⟨b, off, rfl, hM⟩ := hM0 (by omega)
      obtain ⟨s, ad, m, c, hmv⟩ := mv_at ((hM i hin).below hbel)
      obtain ⟨p0, p1, p2, p3, p4, hs, -, hbn, -⟩ := hmv
      have hsn := str_size hs
      clear hM hM0 p0 p1 p2 hs
      by_cases h4 : (20 : Int) < (s.size : Int)
      · have hno : ¬ ShortP yn en d n := fun h => by have := (h.2.2.2 i hin).1; omega
        clear hsn hbn
        go_wp2
        go_ret
        exact ⟨⟨false, rfl, fun h => (by cases h), fun h => absurd h hno⟩, hbel⟩
      by_cases h5 : (40 : Int) < (m : Int)
      · have hno : ¬ ShortP yn en d n := fun h => by have := (h.2.2.2 i hin).2; omega
        clear hsn hbn
        go_wp2
        go_ret
        exact ⟨⟨false, rfl, fun h => (by cases h), fun h => absurd h hno⟩, hbel⟩
      have hall' : ∀ j, j < i + 1 → (d j).sn ≤ 20 ∧ (d j).bn ≤ 40 := fun j hj => by
        by_cases hji : j = i
        · subst hji; exact ⟨by omega, by omega⟩
        · exact hall j (by omega)
      clear hsn hbn hall
      go_wp2
      go_roundw
      case rel => exact ⟨i + 1, by omega, by go_num, rfl, hall', hbox, hbel⟩
      case measure => simp [numOf'] <;> omega
    · have hin' : i = n := by omega
      subst hin'
      clear hM0
      go_wp2
      go_ret
      exact ⟨⟨true, rfl, fun _ => ⟨h12.1, h12.2, by omega, hall⟩, fun _ => rfl⟩, hbel⟩
theorem short_yes (hp : IsStr (.string s1) y0 yo yn) (he : IsStr (.string s2) y1 eo en) (hm : IsMoves w mv d n) (h : ShortP yn en d n) :
    Calls prog 14 #[.agg #[.string s1, .string s2, .bool lx, mv]] w fun e w' => e = .returned (.bool true) ∧ Below w.heap.size w w' := by
  refine (shortR_w hp he hm).mono ?_
  rintro e w' ⟨⟨r, rfl, hr⟩, hB⟩
  exact ⟨by rw [hr.2 h], hB⟩
theorem short_no (hp : IsStr (.string s1) y0 yo yn) (he : IsStr (.string s2) y1 eo en) (hm : IsMoves w mv d n) (h : ¬ ShortP yn en d n) :
    Calls prog 14 #[.agg #[.string s1, .string s2, .bool lx, mv]] w fun e w' => e = .returned (.bool false) ∧ Below w.heap.size w w' := by
  refine (shortR_w hp he hm).mono ?_
  rintro e w' ⟨⟨r, rfl, hr⟩, hB⟩
  cases r with
  | false => exact ⟨rfl, hB⟩
  | true => exact absurd (hr.1 rfl) h
end

theorem hasB13 : f13.body.isSome = true := by kernel_rfl
theorem fn13 : cx.fn 13 = some f13 := by kernel_rfl
theorem awake_w {w : World} (h : Laid w) : Calls prog 13 #[] w fun e w' => e = .returned (.bool true) ∧ Below w.heap.size w w' := by
  obtain ⟨c, hc⟩ := Option.isSome_iff_exists.1 hasB13
  refine (CallRet.calls fn13 hc (awake h)).mono ?_
  rintro e w' ⟨v, rfl, rfl, hk⟩
  exact ⟨rfl, belowOf hk⟩

section
variable {w : World} {pl : Int} {lx : Bool} {pvv ev : Value} {ad0 : Option Addr} {n c : Nat}
end
end Go.Proofs.Tryz

namespace Go.Proofs.Tryz
open Go Go.Am Go.RowKit Go.Dr
set_option maxRecDepth 100000

end Go.Proofs.Tryz

namespace Go.Proofs.Tryz
open Go Go.Am Go.RowKit Go.Dr
set_option maxRecDepth 100000

/-- The five cells of a move. -/
def csOf (w : World) (b off : Nat) (i : Nat) : List Value := (cellsAt w b (off + 5 * i) 5).filterMap id
theorem cs_of {w : World} {b off i : Nat} {m : MvD} (h : IsMv w (cellsAt w b (off + 5 * i) 5) m) : ∃ f1 f2 xb s a k c, csOf w b off i = [.int .i64 f1, .int .i64 f2, .bool xb, .string s, .slice a k c] ∧ cellsAt w b (off + 5 * i) 5 = (csOf w b off i).map some ∧
    m.fr = f1 ∧ m.to = f2 ∧ decide (m.x ≠ 0) = xb ∧ IsStr (.string s) m.y m.so m.sn ∧ IsInts w (.slice a k c) m.t m.bo m.bn := by
  obtain ⟨sv, bv, e, ⟨l, rfl, hl1, hl2⟩, hb⟩ := h
  have hb' := hb
  obtain ⟨a, k, c, rfl, -, -, -⟩ := hb
  have ec : csOf w b off i = [vi m.fr, vi m.to, .bool (decide (m.x ≠ 0)), .string ⟨l.toArray⟩, .slice a k c] := by unfold csOf; rw [e]; rfl
  exact ⟨_, _, _, _, a, k, c, ec, by rw [ec, e]; rfl, rfl, rfl, rfl, ⟨l, rfl, hl1, hl2⟩, hb'⟩

def one (q : MvD → Bool) (m : MvD) : Int := if q m = true then 1 else 0
section
variable {w : World} {n c : Nat} {ad : Option Addr} {d : Nat → MvD}
end
end Go.Proofs.Tryz

namespace Go.Proofs.Tryz
open Go Go.Am Go.RowKit Go.Dr
set_option maxRecDepth 100000

theorem mvs_desc (d : Nat → MvD) : ∀ (n i : Nat), mvsV d n i = 0 → ∀ j, i ≤ j → j < i + n → 0 < j → (d j).fr < (d (j - 1)).fr
  | 0, i, _, j, h1, h2, _ => by omega
  | n + 1, i, h, j, h1, h2, h3 => by
    unfold mvsV at h
    by_cases hc : (d i).check = 0
    · rw [if_pos hc] at h
      by_cases ho : 0 < i ∧ (d (i - 1)).fr ≤ (d i).fr
      · rw [if_pos ho] at h; cases h
      · rw [if_neg ho] at h
        by_cases hj : j = i
        · subst hj
          have : ¬ (d (j - 1)).fr ≤ (d j).fr := fun q => ho ⟨h3, q⟩
          omega
        · exact mvs_desc d n (i + 1) h j (by omega) (by omega) h3
    · rw [if_neg hc] at h; exact absurd h hc

/-- All that is known of the moves of a valid play. -/
structure ValP (d : Nat → MvD) (n : Nat) : Prop where
  v : Val d n
  to : ∀ i, i < n → 1 ≤ (d i).to ∧ (d i).to ≤ 4
  desc : ∀ i j, i < j → j < n → (d j).fr < (d i).fr
theorem valP_of {y0 y1 : Int → Int} {yo yn eo en : Int} {d : Nat → MvD} {n : Nat} (h : plV y0 yo yn y1 eo en d n = 0) (hb : ∀ i, i < n → 0 ≤ (d i).bn) : ValP d n := by
  obtain ⟨h1, h2⟩ := val_of h hb
  refine ⟨h1, h2, ?_⟩
  unfold plV at h
  by_cases p1 : pitV y0 yo yn = 0
  case neg => rw [if_neg p1] at h; exact absurd h p1
  rw [if_pos p1] at h
  by_cases p2 : evOk y1 eo en = true
  case neg => rw [if_neg p2] at h; cases h
  rw [if_pos p2, if_pos h1.n4] at h
  have hd := mvs_desc d n 0 h
  intro i j hij hj
  induction j with
  | zero => omega
  | succ j ih =>
    have a := hd (j + 1) (Nat.zero_le _) (by omega) (by omega)
    simp only [Nat.add_sub_cancel] at a
    by_cases e : i = j
    · subst e; exact a
    · have := ih (by omega) (by omega); omega
/-! ### the putouts -/
/-! ### the assists -/
/-! ### the touches -/
end Go.Proofs.Tryz
