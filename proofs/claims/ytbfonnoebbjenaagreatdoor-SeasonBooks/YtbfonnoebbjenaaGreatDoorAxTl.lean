/- The season's list of a map of totals, up to the sort: by the kit's walk. DERIVED: THE SHELF's CONTRACTS AT THIS DUMP, IN PLAIN WORDS (tools/lay-plain.mjs out of 'AxShelf.lean', which tools/lay-shelf.mjs wrote): THE SAME DECLARATIONS UNDER THE SAME NAMES: 'import', 'namespace', 'open', 'def', 'theorem' AND NOTHING ELSE: no command of the shelf's: FOR A HAND-IN. Each laying: the table of numbers ('.._ren') and one theorem, a field a fact of the dump's own or the kernel's comparison; each contract: ONE APPLICATION. The sort of a row of totals by player: the library's contract at this program's instance, and what it leaves of the row. DERIVED: THE SHELF's CONTRACTS AT THIS DUMP, IN PLAIN WORDS (tools/lay-plain.mjs out of 'AxShelg.lean', which tools/lay-shelf.mjs wrote): THE SAME DECLARATIONS UNDER THE SAME NAMES: 'import', 'namespace', 'open', 'def', 'theorem' AND NOTHING ELSE: no command of the shelf's: FOR A HAND-IN. Each laying: the table of numbers ('.._ren') and one theorem, a field a fact of the dump's own or the kernel's comparison; each contract: ONE APPLICATION. Rows of totals joined (slices.Grow, slices.Concat): by the kit's walk. Rows of totals: searched by a predicate, cloned: by the kit's walk. Games found by their name: by the kit's walk. Rows of totals without those that a predicate strikes (slices.DeleteFunc): by the kit's walk. Rows of structures sorted by the library: what the written world leaves of a row, whatever its elements. DERIVED: THE SHELF's CONTRACTS AT THIS DUMP, IN PLAIN WORDS (tools/lay-plain.mjs out of 'AxShels.lean', which tools/lay-shelf.mjs wrote): THE SAME DECLARATIONS UNDER THE SAME NAMES: 'import', 'namespace', 'open', 'def', 'theorem' AND NOTHING ELSE: no command of the shelf's: FOR A HAND-IN. Each laying: the table of numbers ('.._ren') and one theorem, a field a fact of the dump's own or the kernel's comparison; each contract: ONE APPLICATION. -/
import Derived.Test.YtbfonnoebbjenaaGreatDoorAxTc
import Derived.Shelf.SlGeneric
import Derived.Shelf.SlSortCmp.WholeK
import Derived.Ground.SlsfProg
import Derived.Ground.NamesProg
import Derived.Test.YtbfonnoebbjenaaGreatDoorProg
import Derived.Shelf.SlSortCmp.NoneTotal
import Derived.Shelf.Spec.SlicesGrow
import Derived.Ground.Names7Prog
import Derived.Test.YtbfonnoebbjenaaGreatDoorAxBa
import Derived.Test.YtbfonnoebbjenaaGreatDoorAxMt
import Derived.Laws.IdiomCopy
namespace Go.Proofs.Tryz
open Go Go.Am Go.RowKit Go.Op Go.Maps Go.WideMaps
set_option maxRecDepth 100000

/-- What has been collected so far. -/
structure GoodL (L : List Tot) (left : Lit → Bool) (Lo : List Tot) : Prop where
  nodup : Lo.Pairwise fun a b => a.p ≠ b.p
  mem : ∀ t, t ∈ Lo ↔ (t ∈ L ∧ nzT t = true ∧ left (.string t.p) = false)
  len : Lo.length ≤ L.length
end Go.Proofs.Tryz

namespace Go.Proofs
open Go.Shelf
end Go.Proofs

namespace Go.Proofs.Tryz
open Go Go.Am Go.RowKit Go.Op
set_option maxRecDepth 100000

instance : Inhabited Tot := ⟨tot0⟩
theorem flatR_length {m : Nat} : ∀ {l : List (List Value)}, (∀ y ∈ l, y.length = m) → (flatR l).length = l.length * m
  | [], _ => by simp [flatR]
  | y :: l, h => by
    have ih := flatR_length (l := l) fun z hz => h z (by simp [hz])
    have hy := h y (by simp)
    show (y ++ flatR l).length = _
    rw [List.length_append, ih, hy, List.length_cons, Nat.add_mul]; omega
end Go.Proofs.Tryz

namespace Go.Proofs
open Go.Shelf
end Go.Proofs

namespace Go.Proofs.Tryz
open Go Go.Am Go.RowKit Go.Op
set_option maxRecDepth 100000

theorem haltAp {ops : Array Oper} {rest : List Oper} {d : Option Tmp} {t : TypeId} {p : String} {f : Array Edge} {g : Option (Nat × Bool)} {s x : Operand} {ty : Array TypeId} {a : Act} {w : World} {Q : Exit → Act → World → Prop} (h : Halt (wpList prog ops Q (⟨d, Op.call { callee := .builtin .append, args := #[s, x], argTypes := ty }, t, p, f, g⟩ :: rest) a w)) : wpList prog ops Q (⟨d, Op.call { callee := .builtin .append, args := #[s, x], argTypes := ty }, t, p, f, g⟩ :: rest) a w := h

end Go.Proofs.Tryz

namespace Go.Proofs.Tryz
open Go Go.Am Go.RowKit Go.Op
set_option maxRecDepth 100000

end Go.Proofs.Tryz

namespace Go.Proofs.Tryz
open Go Go.Am Go.RowKit Go.Op
set_option maxRecDepth 100000

/-- The place of the first game with a name from i on, k games at most, or -1. -/
def fndK (g : Nat → GmD) (nm : List UInt8) : Nat → Nat → Int
  | _, 0 => -1
  | i, k + 1 => if ((g i).nm == nm) = true then (i : Int) else fndK g nm (i + 1) k
theorem fndK_next {g : Nat → GmD} {nm : List UInt8} {i n : Nat} (h : i < n) : fndK g nm i (n - i) = if ((g i).nm == nm) = true then (i : Int) else fndK g nm (i + 1) (n - (i + 1)) := by
  rw [show n - i = (n - (i + 1)) + 1 by omega, fndK]
set_option maxHeartbeats 3200000 in
theorem findG_w {w : World} {v : Value} {g : Nat → GmD} {n : Nat} (h : IsGames w v g n) (hn : n ≤ 10000) (nm : List UInt8) :
    Calls prog 64 #[v, .string (bA nm)] w fun e w' => e = .returned (.int .i64 (fndK g nm 0 n)) ∧ Below w.heap.size w w' := by
  obtain ⟨va, vc, rfl, -⟩ := (show Row w v 8 n _ from h.choose_spec.1).slice
  have HV := Lib.hid h
  obtain ⟨K, hK⟩ : ∃ K, fndK g nm 0 n = K := ⟨_, rfl⟩
  rw [hK]
  have HS : Hid (fndK g nm 0 (n - 0) = K) := Lib.hid hK
  have ln : (bA nm).toList = nm := bA_list _
  clear h hK
  go_enter func64, ntmps64
  go_wp2_with fail
  go_loopw [5] (fun t wr => ∃ i : Nat, i ≤ n ∧ t = .int .i64 i ∧ Hid (fndK g nm i (n - i) = K) ∧ Below w.heap.size w wr) (fun t _ => n - (numOf' t).toNat)
  case atStart => exact ⟨0, Nat.zero_le _, rfl, HS, Below.refl _ _⟩
  case round =>
    clear HS
    obtain ⟨i, hi, rfl, hS, hb⟩ := hrel
    by_cases hin : i < n
    · obtain ⟨b1, o1, d1, ad1, kc1, e1, -, L1, p0, p1, p2, p3, p4, p5, p6, p7⟩ := (HV.out.below hb).at hin
      simp only [Value.slice.injEq, true_and] at e1
      obtain ⟨rfl, rfl⟩ := e1
      have hii : (i : Int) < (n : Int) := by omega
      have lg : (bA (g i).nm).toList = (g i).nm := bA_list _
      have hS2 := hS.out
      rw [fndK_next hin] at hS2
      obtain ⟨q, hq⟩ : ∃ q, ((g i).nm == nm) = q := ⟨_, rfl⟩
      rw [hq] at hS2
      clear hS L1 p1 p2 p3 p4 p5 p6 p7
      cases q with
      | true =>
        have HS2 : Hid ((i : Int) = K) := Lib.hid (by rw [← hS2, if_pos rfl])
        clear hS2
        go_wp2_with fail
        go_ret
        exact ⟨by rw [← HS2.out]; rfl, hb⟩
      | false =>
        have HS2 : Hid (fndK g nm (i + 1) (n - (i + 1)) = K) := Lib.hid (by rw [← hS2, if_neg (by decide)])
        clear hS2
        go_wp2_with fail
        go_roundw
        case rel => exact ⟨i + 1, by omega, by go_num, HS2, hb⟩
        case measure => simp [numOf'] <;> omega
    · obtain rfl : i = n := by omega
      have hS2 := hS.out
      rw [Nat.sub_self] at hS2
      have HS2 : Hid ((-1 : Int) = K) := Lib.hid hS2
      have hii : ¬ (i : Int) < (i : Int) := by omega
      clear hS2 hS
      go_wp2_with fail
      go_ret
      exact ⟨by rw [← HS2.out]; rfl, hb⟩
set_option maxHeartbeats 1600000 in
theorem clo160 (x : GmD) (lv : Value) (nm : List UInt8) {b : Nat} (W : World) (hb : W.cell? ⟨b, 0, none⟩ = some (.string (bA nm))) :
    Calls prog 160 #[.agg (x.arr lv), .pointer (some ⟨b, 0, none⟩)] W fun e w' => e = .returned (.bool (x.nm == nm)) ∧ Below W.heap.size W w' := by
  have hx := at_new W (x.arr lv) 110
  have hal : Below W.heap.size W (W.alloc (.cells (x.arr lv) 110)) := (Below.refl _ _).alloc (Nat.le_refl _) _
  have hb := (hal.cell (cell_under hb)).trans hb
  have l1 : (bA x.nm).toList = x.nm := bA_list _
  have l2 : (bA nm).toList = nm := bA_list _
  unfold GmD.arr at hal hb ⊢
  clear hx
  go_enter func160, ntmps160
  go_wp2_with fail
  go_ret
  exact ⟨rfl, hal⟩
set_option maxHeartbeats 3200000 in
theorem indexGF_w {w : World} {v : Value} {g : Nat → GmD} {n : Nat} (h : IsGames w v g n) (hn : n ≤ 10000) (nm : List UInt8) (G : Nat) (cb : Array Value) (eg : ∀ args w, (callFunc G args).run prog w = .ok (.enter G args) w)
    (hP : ∀ (x : GmD) (lv : Value) (W : World), Below w.heap.size w W → Calls prog G (#[.agg #[.string (bA x.nm), .int .i64 x.ver, .int .i64 x.day, .string (bA x.t0), .string (bA x.t1), .int .i64 x.s0, .int .i64 x.s1, lv]] ++ cb) W fun e w' => e = .returned (.bool (x.nm == nm)) ∧ Below W.heap.size W w') :
    Calls prog 159 #[v, .func (.func G) #[] cb] w fun e w' => e = .returned (.int .i64 (fndK g nm 0 n)) ∧ Below w.heap.size w w' := by
  obtain ⟨va, vc, rfl, -⟩ := (show Row w v 8 n _ from h.choose_spec.1).slice
  have HV := Lib.hid (And.intro h hP)
  obtain ⟨K, hK⟩ : ∃ K, fndK g nm 0 n = K := ⟨_, rfl⟩
  rw [hK]
  have HS : Hid (fndK g nm 0 (n - 0) = K) := Lib.hid hK
  clear h hK hP
  go_enter func159, ntmps159
  go_wp2_with fail
  go_loopw [8] (fun t wr => ∃ i : Nat, i ≤ n ∧ t = .int .i64 i ∧ Hid (fndK g nm i (n - i) = K) ∧ Below w.heap.size w wr) (fun t _ => n - (numOf' t).toNat)
  case atStart => exact ⟨0, Nat.zero_le _, rfl, HS, Below.refl _ _⟩
  case round =>
    clear HS
    obtain ⟨i, hi, rfl, hS, hb⟩ := hrel
    by_cases hin : i < n
    · obtain ⟨b1, o1, d1, ad1, kc1, e1, -, L1, p0, p1, p2, p3, p4, p5, p6, p7⟩ := (HV.out.1.below hb).at hin
      simp only [Value.slice.injEq, true_and] at e1
      obtain ⟨rfl, rfl⟩ := e1
      have hii : (i : Int) < (n : Int) := by omega
      have hS2 := hS.out
      rw [fndK_next hin] at hS2
      have hcP := HV.out.2 (g i) (.slice ad1 (g i).k kc1) wr hb
      obtain ⟨q, hq⟩ : ∃ q, ((g i).nm == nm) = q := ⟨_, rfl⟩
      rw [hq] at hS2 hcP
      clear hS L1
      go_wp2_with fail
      go_at_fn G
      refine hcP.mono ?_
      rintro e W2 ⟨rfl, hb2⟩
      have hb3 := hb.trans (hb2.mono hb.size)
      clear hcP p0 p1 p2 p3 p4 p5 p6 p7 hb hb2
      cases q with
      | true =>
        have HS2 : Hid ((i : Int) = K) := Lib.hid (by rw [← hS2, if_pos rfl])
        clear hS2
        go_wp2_with fail
        go_ret
        exact ⟨by rw [← HS2.out]; rfl, hb3⟩
      | false =>
        have HS2 : Hid (fndK g nm (i + 1) (n - (i + 1)) = K) := Lib.hid (by rw [← hS2, if_neg (by decide)])
        clear hS2
        go_wp2_with fail
        go_roundw
        case rel => exact ⟨i + 1, by omega, by go_num, HS2, hb3⟩
        case measure => simp [numOf'] <;> omega
    · obtain rfl : i = n := by omega
      have hS2 := hS.out
      rw [Nat.sub_self] at hS2
      have HS2 : Hid ((-1 : Int) = K) := Lib.hid hS2
      have hii : ¬ (i : Int) < (i : Int) := by omega
      clear hS2 hS
      go_wp2_with fail
      go_ret
      exact ⟨by rw [← HS2.out]; rfl, hb⟩
end Go.Proofs.Tryz

namespace Go.Proofs.Tryz
open Go Go.Am Go.RowKit Go.Op
set_option maxRecDepth 100000

theorem setCells_setN (b : Nat) : ∀ (vs : List Value) (o : Nat) (w : World), w.setCells b o vs = setN w b o vs
  | [], _, _ => rfl
  | v :: r, o, w => by rw [World.setCells, setN, setCells_setN b r]
/-- The first elements of a row of the call's own. -/
theorem OwnRow.short {w : World} {base e m g n cap : Nat} {l : List (List Value)} (h : OwnRow w base e m (.slice (some ⟨g, 0, none⟩) n cap) l) {i : Nat} (hi : i ≤ l.length) : OwnRow w base e m (.slice (some ⟨g, 0, none⟩) i cap) (l.take i) := by
  have hm := h.2
  rcases h.1.2 with ⟨e0, h0⟩ | ⟨g', cap', cur, e0, h1, h2, h3, h4, h5, h6⟩
  · cases e0
  · simp only [Value.slice.injEq, Option.some.injEq, Addr.mk.injEq, and_true] at e0
    obtain ⟨rfl, rfl, rfl⟩ := e0
    have hl : (l.take i).length = i := by rw [List.length_take]; omega
    have hmt : ∀ y ∈ l.take i, y.length = m := fun y hy => hm y (List.mem_of_mem_take hy)
    have hf := flatR_length hmt
    rw [hl] at hf
    refine ⟨⟨by rw [hl]; exact hf, .inr ⟨g, cap, cur, by rw [hl], h1, h2, by rw [hl]; omega, h4, h5, ?_⟩⟩, hmt⟩
    rw [hl]
    have e1 : flatR l = flatR (l.take i) ++ flatR (l.drop i) := by unfold flatR; rw [← List.flatten_append, List.take_append_drop]
    have e2 : cur.toList.take (i * m) = (cur.toList.take (l.length * m)).take (i * m) := by
      rw [List.take_take, Nat.min_eq_left (Nat.mul_le_mul_right _ hi)]
    rw [e2, h6, e1, List.take_append_of_le_length (by rw [hf]; exact Nat.le_refl _), List.take_of_length_le (by rw [hf]; exact Nat.le_refl _)]
/-- A store behind a row. -/
theorem OwnRow.beyond {w : World} {base e m g n cap : Nat} {l : List (List Value)} (h : OwnRow w base e m (.slice (some ⟨g, 0, none⟩) n cap) l) {j : Nat} (hj : l.length * m ≤ j) (u : Value) : OwnRow (w.setCell ⟨g, j, none⟩ u) base e m (.slice (some ⟨g, 0, none⟩) n cap) l := by
  have hm := h.2
  rcases h.1.2 with ⟨e0, h0⟩ | ⟨g', cap', cur, e0, h1, h2, h3, h4, h5, h6⟩
  · cases e0
  · simp only [Value.slice.injEq, Option.some.injEq, Addr.mk.injEq, and_true] at e0
    obtain ⟨rfl, rfl, rfl⟩ := e0
    refine ⟨⟨h.1.1, .inr ⟨g, cap, cur.setIfInBounds j u, rfl, h1, ?_, h3, h4, by simpa using h5, ?_⟩⟩, hm⟩
    · simp only [World.setCell, Array.getElem?_modify, h2]
      simp
    · rw [Array.toList_setIfInBounds, List.take_set_of_le hj]
      exact h6
theorem OwnRow.beyondN {base e m g n cap : Nat} {l : List (List Value)} : ∀ {vs : List Value} {w : World} {j : Nat}, OwnRow w base e m (.slice (some ⟨g, 0, none⟩) n cap) l → l.length * m ≤ j → OwnRow (setN w g j vs) base e m (.slice (some ⟨g, 0, none⟩) n cap) l
  | [], _, _, h, _ => h
  | v :: r, _, _, h, hj => OwnRow.beyondN (vs := r) (h.beyond hj v) (by omega)
end Go.Proofs.Tryz

namespace Go.Proofs.Tryz
open Go Go.Am Go.RowKit Go.Op
set_option maxRecDepth 100000

section
variable {α : Type} {enc : α → List Value} {m : Nat}
theorem lenG (hm : ∀ x, (enc x).length = m) (l : List α) : ∀ y ∈ l.map enc, y.length = m := fun y hy => by
  obtain ⟨t, -, rfl⟩ := List.mem_map.1 hy
  exact hm t
theorem flatR_lenG {m : Nat} : ∀ {l : List (List Value)}, (∀ y ∈ l, y.length = m) → (flatR l).length = l.length * m
  | [], _ => by simp [flatR]
  | y :: l, h => by
    have ih := flatR_lenG (l := l) fun z hz => h z (by simp [hz])
    have hy := h y (by simp)
    show (y ++ flatR l).length = _
    rw [List.length_append, ih, hy, List.length_cons, Nat.add_mul]; omega
variable [Inhabited α]
/-- The flat row, place by place. -/
theorem flat_atG (hm : ∀ x, (enc x).length = m) (l : List α) {j : Nat} (hj : j < l.length * m) : (flatR (l.map enc))[j]? = some (Go.Sort.flatK enc m l.toArray)[j]! := by
  have h0 : 0 < m := by
    rcases Nat.eq_zero_or_pos m with rfl | h
    · simp at hj
    · exact h
  have h1 : j / m < l.length := Nat.div_lt_of_lt_mul (by rwa [Nat.mul_comm])
  have h2 : j % m < m := Nat.mod_lt _ h0
  rw [Go.Sort.get_flatK _ _ _ _ (by simpa using hj)]
  have hx : (l.map enc)[j / m]? = some (enc l[j / m]) := by rw [List.getElem?_map, List.getElem?_eq_getElem h1]; rfl
  have hl : j % m < (enc l[j / m]).length := by rw [hm]; exact h2
  have hu : (enc l[j / m])[j % m]? = some (enc l[j / m])[j % m] := List.getElem?_eq_getElem hl
  have h3 := flatR_get (lenG hm l) hx hu
  have e : j / m * m + j % m = j := Nat.div_add_mod' j m
  rw [e] at h3
  rw [h3]
  have e2 : (l.toArray)[j / m]! = l[j / m] := by rw [getElem!_pos l.toArray (j / m) (by simpa using h1)]; simp
  rw [e2, getElem!_pos (enc l[j / m]) (j % m) hl]
theorem holdsG (hm : ∀ x, (enc x).length = m) {W : World} {base e g cap : Nat} {l : List α} (h : OwnRow W base e m (.slice (some ⟨g, 0, none⟩) l.length cap) (l.map enc)) : Go.Sort.HoldsK enc m W g 0 l.toArray := by
  intro j hj
  have hj' : j < l.length * m := by simpa using hj
  have h0 : 0 < m := by
    rcases Nat.eq_zero_or_pos m with rfl | h
    · simp at hj'
    · exact h
  have h1 : j / m < l.length := Nat.div_lt_of_lt_mul (by rwa [Nat.mul_comm])
  have h2 : j % m < m := Nat.mod_lt _ h0
  have hx : (l.map enc)[j / m]? = some (enc l[j / m]) := by rw [List.getElem?_map, List.getElem?_eq_getElem h1]; rfl
  have hl : j % m < (enc l[j / m]).length := by rw [hm]; exact h2
  have hu : (enc l[j / m])[j % m]? = some (enc l[j / m])[j % m] := List.getElem?_eq_getElem hl
  have hc := OwnRow.cell h hx hu
  have h3 := flatR_get (lenG hm l) hx hu
  have e : j / m * m + j % m = j := Nat.div_add_mod' j m
  rw [e] at hc h3
  rw [flat_atG hm l hj'] at h3
  rw [Nat.zero_add, Option.some.inj h3]
  exact hc
theorem put_blockG {W : World} {g n e : Nat} {cur : Array Value} {l : List α} {os : Array Obj} (h : W.heap[g]? = some (.cells cur e (0, 0))) :
    (Go.Sort.grow (Go.Sort.putRowK enc m (Go.Sort.ahead W n) g 0 l.toArray) os).heap[g]? = some (.cells (Go.Sort.putCells id 0 (Go.Sort.flatK enc m l.toArray) cur) e (0, 0)) := by
  have hlt := (Array.getElem?_eq_some_iff.1 h).1
  show ((W.heap.modify g _) ++ os)[g]? = _
  rw [Array.getElem?_append_left (by simpa using hlt), Array.getElem?_modify, h]
  simp [Go.Sort.onCells]
theorem put_otherG {W : World} {g n i : Nat} {d : Array α} {os : Array Obj} (hi : i < W.heap.size) (hne : i ≠ g) :
    (Go.Sort.grow (Go.Sort.putRowK enc m (Go.Sort.ahead W n) g 0 d) os).heap[i]? = W.heap[i]? := by
  show ((W.heap.modify g _) ++ os)[i]? = _
  rw [Array.getElem?_append_left (by simpa using hi), Array.getElem?_modify, if_neg (fun e => hne e.symm)]
theorem putG (hm : ∀ x, (enc x).length = m) {W : World} {base e g cap n : Nat} {l l' : List α} {os : Array Obj} (h : OwnRow W base e m (.slice (some ⟨g, 0, none⟩) l.length cap) (l.map enc)) (hl : l'.length = l.length) :
    OwnRow (Go.Sort.grow (Go.Sort.putRowK enc m (Go.Sort.ahead W n) g 0 l'.toArray) os) base e m (.slice (some ⟨g, 0, none⟩) l.length cap) (l'.map enc) := by
  rcases h.1.2 with ⟨e0, h0⟩ | ⟨g', cap', cur, e0, h1, h2, h3, h4, h5, h6⟩
  · cases e0
  · simp only [Value.slice.injEq, Option.some.injEq, Addr.mk.injEq, and_true] at e0
    obtain ⟨rfl, -, rfl⟩ := e0
    rw [List.length_map] at h3
    have hlen := flatR_lenG (lenG hm l')
    rw [List.length_map] at hlen
    refine ⟨⟨by rw [List.length_map]; exact hlen, .inr ⟨g, cap, Go.Sort.putCells id 0 (Go.Sort.flatK enc m l'.toArray) cur, by rw [List.length_map, hl], h1, put_blockG h2, by rw [List.length_map, hl]; exact h3, h4, by simpa [Go.Sort.putCells] using h5, ?_⟩⟩, lenG hm l'⟩
    rw [List.length_map]
    apply List.ext_getElem?
    intro k
    have hcs : l'.length * m ≤ cur.size := by rw [h5, hl]; exact Nat.mul_le_mul_right _ h3
    by_cases hk : k < l'.length * m
    · rw [flat_atG hm l' hk, List.getElem?_take_of_lt hk, Array.getElem?_toList]
      have hkc : k < cur.size := Nat.lt_of_lt_of_le hk hcs
      simp only [Go.Sort.putCells, Array.getElem?_mapIdx, Array.getElem?_eq_getElem hkc, Option.map_some]
      rw [if_pos ⟨Nat.zero_le _, by simpa using hk⟩]
      simp
    · have hz : (flatR (l'.map enc))[k]? = none := List.getElem?_eq_none (by rw [hlen]; omega)
      rw [hz, List.getElem?_eq_none (by rw [List.length_take]; omega)]
theorem keepsG {W : World} {base g n : Nat} {d : Array α} {os : Array Obj} (hg : base ≤ g) : Keeps base W (Go.Sort.grow (Go.Sort.putRowK enc m (Go.Sort.ahead W n) g 0 d) os) := fun w0 h0 hb => by
  refine ⟨h0.os, h0.tape, h0.output, ?_, fun i hi => ?_⟩
  · have := h0.size
    rw [Go.Sort.size_grow]
    show w0.heap.size ≤ (Go.Sort.putRow id (Go.Sort.ahead W n) g 0 _).heap.size + _
    rw [Go.Sort.size_putRow]
    exact Nat.le_trans this (Nat.le_add_right _ _)
  · rw [put_otherG (Nat.lt_of_lt_of_le hi h0.size) (by omega)]
    exact h0.block i hi
theorem sorted_listG {cf : α → α → Int} {d' : Array α} {l : List α} (hp : Go.Sort.PermIn 0 l.toArray.size l.toArray d') (hs : Go.Sort.SortedIn (ltOf cf) 0 l.toArray.size d') : d'.toList.Perm l ∧ (d'.toList.Pairwise fun a b => ltOf cf b a = false) ∧ d'.toList.length = l.length := by
  obtain ⟨h1, -, h3⟩ := hp
  have e0 : d'.size = l.length := by simpa using h1
  have e1 : d'.extract 0 l.toArray.size = d' := by rw [← h1]; simp
  have e2 : l.toArray.extract 0 l.toArray.size = l.toArray := by simp
  rw [e1, e2] at h3
  have hpm : d'.toList.Perm l := h3
  refine ⟨hpm, ?_, by simpa using e0⟩
  rw [List.pairwise_iff_getElem]
  intro i j hi hj hij
  have hi' : i < d'.size := by simpa using hi
  have hj' : j < d'.size := by simpa using hj
  have := hs i j (Nat.zero_le _) hij (by rw [← h1]; exact hj')
  rw [getElem!_pos d' i hi', getElem!_pos d' j hj'] at this
  simp only [Array.getElem_toList]
  exact this
end
end Go.Proofs.Tryz

namespace Go.Proofs
open Go.Shelf
def Tryz.sortSSL_ren : Go.Shelf.Ren := ⟨fun | 6 => 115 | 15 => 149 | 14 => 155 | 28 => 188 | 29 => 189 | 20 => 190 | 21 => 191 | 22 => 192 | 23 => 193 | 24 => 194 | 25 => 195 | 26 => 196 | 27 => 197 | 46 => 213 | 47 => 209 | 48 => 210 | 49 => 214 | 50 => 215 | 57 => 234 | n => n, fun | 22 => 86 | 24 => 92 | 25 => 181 | 3 => 3 | 39 => 224 | 0 => 0 | 53 => 264 | 55 => 266 | 4 => 4 | 46 => 257 | 45 => 256 | 50 => 261 | 5 => 5 | 9 => 9 | 66 => 278 | 70 => 282 | 76 => 297 | 77 => 298 | n => n, fun | n => n⟩
def Tryz.sortGSL_ren : Go.Shelf.Ren := ⟨fun | 6 => 163 | 15 => 149 | 14 => 198 | 28 => 188 | 29 => 189 | 20 => 216 | 21 => 217 | 22 => 218 | 23 => 219 | 24 => 220 | 25 => 221 | 26 => 222 | 27 => 223 | 46 => 235 | 47 => 209 | 48 => 210 | 49 => 236 | 50 => 237 | 57 => 249 | n => n, fun | 22 => 29 | 24 => 110 | 25 => 232 | 3 => 3 | 39 => 224 | 0 => 0 | 53 => 264 | 55 => 266 | 4 => 4 | 46 => 257 | 45 => 256 | 50 => 261 | 5 => 5 | 9 => 9 | 66 => 278 | 70 => 282 | 76 => 297 | 77 => 298 | n => n, fun | n => n⟩
theorem Tryz.sortGSL : Go.Proofs.SlLaysF0.n6 Tryz.prog Tryz.sortGSL_ren := {
  mixed := by kernel_rfl
  f6 := ⟨Tryz.f163.name, by decide, Tryz.func163.trans (congrArg some (by kernel_rfl))⟩
  f14 := ⟨Tryz.f198.name, by decide, Tryz.func198.trans (congrArg some (by kernel_rfl))⟩
  f15 := Tryz.func149.trans (congrArg some (by kernel_rfl))
  f20 := ⟨Tryz.f216.name, by decide, Tryz.func216.trans (congrArg some (by kernel_rfl))⟩
  f21 := ⟨Tryz.f217.name, by decide, Tryz.func217.trans (congrArg some (by kernel_rfl))⟩
  f22 := ⟨Tryz.f218.name, by decide, Tryz.func218.trans (congrArg some (by kernel_rfl))⟩
  f23 := ⟨Tryz.f219.name, by decide, Tryz.func219.trans (congrArg some (by kernel_rfl))⟩
  f24 := ⟨Tryz.f220.name, by decide, Tryz.func220.trans (congrArg some (by kernel_rfl))⟩
  f25 := ⟨Tryz.f221.name, by decide, Tryz.func221.trans (congrArg some (by kernel_rfl))⟩
  f26 := ⟨Tryz.f222.name, by decide, Tryz.func222.trans (congrArg some (by kernel_rfl))⟩
  f27 := ⟨Tryz.f223.name, by decide, Tryz.func223.trans (congrArg some (by kernel_rfl))⟩
  f28 := Tryz.func188.trans (congrArg some (by kernel_rfl))
  f29 := Tryz.func189.trans (congrArg some (by kernel_rfl))
  f46 := ⟨Tryz.f235.name, by decide, Tryz.func235.trans (congrArg some (by kernel_rfl))⟩
  f47 := Tryz.func209.trans (congrArg some (by kernel_rfl))
  f48 := Tryz.func210.trans (congrArg some (by kernel_rfl))
  f49 := ⟨Tryz.f236.name, by decide, Tryz.func236.trans (congrArg some (by kernel_rfl))⟩
  f50 := ⟨Tryz.f237.name, by decide, Tryz.func237.trans (congrArg some (by kernel_rfl))⟩
  f57 := ⟨Tryz.f249.name, by decide, Tryz.func249.trans (congrArg some (by kernel_rfl))⟩
  t0 := Tryz.underlying0
  a0 := Tryz.isAgg0
  z0 := Tryz.sizeOf0
  v0 := Tryz.zeroValue0
  t3 := Tryz.underlying3
  a3 := Tryz.isAgg3
  z3 := Tryz.sizeOf3
  v3 := Tryz.zeroValue3
  t4 := Tryz.underlying4
  a4 := Tryz.isAgg4
  z4 := Tryz.sizeOf4
  v4 := Tryz.zeroValue4
  t5 := Tryz.underlying5
  a5 := Tryz.isAgg5
  z5 := Tryz.sizeOf5
  v5 := Tryz.zeroValue5
  t9 := Tryz.underlying9
  a9 := Tryz.isAgg9
  z9 := Tryz.sizeOf9
  v9 := Tryz.zeroValue9
  t22 := Tryz.underlying29
  a22 := Tryz.isAgg29
  z22 := Tryz.sizeOf29
  v22 := Tryz.zeroValue29
  t25 := Tryz.underlying232
  a25 := Tryz.isAgg232
  z25 := Tryz.sizeOf232
  v25 := Tryz.zeroValue232
  t39 := Tryz.underlying224
  a39 := Tryz.isAgg224
  z39 := Tryz.sizeOf224
  v39 := Tryz.zeroValue224
  t45 := Tryz.underlying256
  a45 := Tryz.isAgg256
  z45 := Tryz.sizeOf256
  v45 := Tryz.zeroValue256
  t46 := Tryz.underlying257
  a46 := Tryz.isAgg257
  z46 := Tryz.sizeOf257
  v46 := Tryz.zeroValue257
  t50 := Tryz.underlying261
  a50 := Tryz.isAgg261
  z50 := Tryz.sizeOf261
  v50 := Tryz.zeroValue261
  t53 := Tryz.underlying264
  a53 := Tryz.isAgg264
  z53 := Tryz.sizeOf264
  v53 := Tryz.zeroValue264
  t55 := Tryz.underlying266
  a55 := Tryz.isAgg266
  z55 := Tryz.sizeOf266
  v55 := Tryz.zeroValue266
  t66 := Tryz.underlying278
  a66 := Tryz.isAgg278
  z66 := Tryz.sizeOf278
  v66 := Tryz.zeroValue278
  t70 := Tryz.underlying282
  a70 := Tryz.isAgg282
  z70 := Tryz.sizeOf282
  v70 := Tryz.zeroValue282
  t76 := Tryz.underlying297
  a76 := Tryz.isAgg297
  z76 := Tryz.sizeOf297
  v76 := Tryz.zeroValue297
  t77 := Tryz.underlying298
  a77 := Tryz.isAgg298
  z77 := Tryz.sizeOf298
  v77 := Tryz.zeroValue298 }
end Go.Proofs
