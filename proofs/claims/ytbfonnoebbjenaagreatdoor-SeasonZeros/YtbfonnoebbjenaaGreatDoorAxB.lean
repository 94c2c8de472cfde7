/- On the season seat: rows of games and lines that are handed, opened. -/
import Derived.Test.YtbfonnoebbjenaaGreatDoorAxA
import Derived.Test.YtbfonnoebbjenaaGreatDoorRows
import Derived.ProofKit
import Derived.LaidMore
import Derived.OpenShut
import Derived.Carry
import Derived.Lay
import Derived.Stop.Joined
namespace Go.Proofs.Tryz
open Go Go.Am Go.ChangeShapes Go.WideShapes Go.ChangeAt Go.RowKit
set_option maxRecDepth 100000

/-- A line of a game. -/
structure LnD where
  p : List UInt8
  t : List UInt8
  c : Nat → Int
def ints (n : Nat) (c : Nat → Int) : List Value := (List.range n).map fun i => .int .i64 (c i)
theorem ints_len (n : Nat) (c : Nat → Int) : (ints n c).length = n := by simp [ints]
theorem ints_get {n i : Nat} {c : Nat → Int} (h : i < n) : (ints n c)[i]? = some (.int .i64 (c i)) := by simp [ints, h]
def LnD.cells (x : LnD) : List Value := .string (bA x.p) :: .string (bA x.t) :: ints 12 x.c
theorem LnD.len (x : LnD) : x.cells.length = 14 := by simp [LnD.cells, ints_len]
/-- A game. -/
structure GmD where
  nm : List UInt8
  ver : Int
  day : Int
  t0 : List UInt8
  t1 : List UInt8
  s0 : Int
  s1 : Int
  l : Nat → LnD
  k : Nat
def GmD.cells (g : GmD) (lv : Value) : List Value := [.string (bA g.nm), .int .i64 g.ver, .int .i64 g.day, .string (bA g.t0), .string (bA g.t1), .int .i64 g.s0, .int .i64 g.s1, lv]
theorem GmD.len (g : GmD) (lv : Value) : (g.cells lv).length = 8 := rfl
def IsLines (w : World) (v : Value) (l : Nat → LnD) (k : Nat) : Prop := Row w v 14 k fun i => (l i).cells
def IsGames (w : World) (v : Value) (g : Nat → GmD) (n : Nat) : Prop := ∃ lv : Nat → Value, Row w v 8 n (fun i => (g i).cells (lv i)) ∧ ∀ i, i < n → IsLines w (lv i) (g i).l (g i).k
theorem IsLines.below {w W : World} {v : Value} {l : Nat → LnD} {k : Nat} (h : IsLines w v l k) (hb : Below w.heap.size w W) : IsLines W v l k := Row.below h hb
theorem IsGames.below {w W : World} {v : Value} {g : Nat → GmD} {n : Nat} (h : IsGames w v g n) (hb : Below w.heap.size w W) : IsGames W v g n :=
  let ⟨lv, h1, h2⟩ := h; ⟨lv, h1.below hb, fun i hi => (h2 i hi).below hb⟩
theorem IsLines.at {w : World} {v : Value} {l : Nat → LnD} {k i : Nat} (h : IsLines w v l k) (hi : i < k) : ∃ b off c, v = .slice (some ⟨b, off, none⟩) k c ∧ k ≤ c ∧ w.cell? ⟨b, off + i * 14, none⟩ = some (.string (bA (l i).p)) ∧ w.cell? ⟨b, off + i * 14 + 1, none⟩ = some (.string (bA (l i).t)) ∧ ∀ j, j < 12 → w.cell? ⟨b, off + i * 14 + (2 + j), none⟩ = some (.int .i64 ((l i).c j)) := by
  obtain ⟨b, off, c, e, h1, h2⟩ := Row.at h hi
  refine ⟨b, off, c, e, h1, h2 0 _ rfl, h2 1 _ rfl, fun j hj => h2 (2 + j) _ ?_⟩
  rw [Nat.add_comm]
  exact ints_get hj
theorem IsGames.at {w : World} {v : Value} {g : Nat → GmD} {n i : Nat} (h : IsGames w v g n) (hi : i < n) : ∃ b off c ad kc, v = .slice (some ⟨b, off, none⟩) n c ∧ n ≤ c ∧ IsLines w (.slice ad (g i).k kc) (g i).l (g i).k ∧ w.cell? ⟨b, off + i * 8, none⟩ = some (.string (bA (g i).nm)) ∧ w.cell? ⟨b, off + i * 8 + 1, none⟩ = some (.int .i64 (g i).ver) ∧
    w.cell? ⟨b, off + i * 8 + 2, none⟩ = some (.int .i64 (g i).day) ∧ w.cell? ⟨b, off + i * 8 + 3, none⟩ = some (.string (bA (g i).t0)) ∧ w.cell? ⟨b, off + i * 8 + 4, none⟩ = some (.string (bA (g i).t1)) ∧ w.cell? ⟨b, off + i * 8 + 5, none⟩ = some (.int .i64 (g i).s0) ∧ w.cell? ⟨b, off + i * 8 + 6, none⟩ = some (.int .i64 (g i).s1) ∧ w.cell? ⟨b, off + i * 8 + 7, none⟩ = some (.slice ad (g i).k kc) := by
  obtain ⟨lv, h1, h2⟩ := h
  obtain ⟨b, off, c, e, h3, h4⟩ := h1.at hi
  have h5 := h2 i hi
  obtain ⟨ad, kc, e2, -⟩ := Row.slice h5
  rw [e2] at h5 h4
  exact ⟨b, off, c, ad, kc, e, h3, h5, h4 0 _ rfl, h4 1 _ rfl, h4 2 _ rfl, h4 3 _ rfl, h4 4 _ rfl, h4 5 _ rfl, h4 6 _ rfl, h4 7 _ rfl⟩

/-! ### opened -/
theorem field_at {fs : Array Field} {l : List (TypeId × Nat)} (h : (fs.toList.map fun f => (f.type, f.offset)) = l) {i : Nat} {t o : Nat} (hi : l[i]? = some (t, o)) : ∃ f, fs[i]? = some f ∧ f.type = t ∧ f.offset = o := by
  rw [← h, List.getElem?_map, Option.map_eq_some_iff] at hi
  obtain ⟨f, h1, h2⟩ := hi
  simp only [Prod.mk.injEq] at h2
  exact ⟨f, by simpa using h1, h2.1, h2.2⟩
theorem spot_none {w : World} {a : Addr} {v : Value} (h : w.cell? a = some v) : a = ⟨a.block, a.off, none⟩ := by
  unfold World.cell? at h
  split at h
  · cases hs : a.spot with
    | none => obtain ⟨b, o, s⟩ := a; simp only at hs; subst hs; rfl
    | some x => rw [hs] at h; simp at h
  · cases h
section
variable {H : Type} {enc : TypeId × Value → H} {w : World} {base : Nat} {spare : Nat → Bool} {held : Bool}
/-- An array of n integers, as it lies. -/
theorem arr_int {fuel t e n : Nat} {cs : List Value} {x : DataW H × List MemPlace} (ht : prog.underlying t = some (.array n e)) (he : prog.underlying e = some (.int .i64)) (hc : prog.cellsOf e = 1) (hct : prog.cellsOf t = n) (h : DataW.trod enc prog w base spare held fuel t cs = some x) : ∃ f : Nat → Int, cs = ints n f := by
  obtain ⟨xs, m, _, _, hl, hn, hel⟩ := DataW.trod_array ht h
  rw [hct] at hl
  refine ⟨fun i => match cs[i]? with | some (.int _ z) => z | _ => 0, List.ext_getElem? fun i => ?_⟩
  by_cases hi : i < n
  · have h1 := hel i hi
    rw [hc, Nat.mul_one, List.getElem?_eq_getElem (by omega)] at h1
    obtain ⟨z, e1, -⟩ := DataW.trod_int he h1
    have e2 := congrArg (fun l => l[0]?) e1
    simp only [List.getElem?_take, List.getElem?_drop, List.getElem?_cons_zero] at e2
    simp at e2
    rw [ints_get hi, e2]
  · rw [List.getElem?_eq_none (by omega), List.getElem?_eq_none (by rw [ints_len]; omega)]
/-- An array of two strings, as it lies. -/
theorem arr_str2 {fuel t e : Nat} {cs : List Value} {x : DataW H × List MemPlace} (ht : prog.underlying t = some (.array 2 e)) (he : prog.underlying e = some .string) (hc : prog.cellsOf e = 1) (hct : prog.cellsOf t = 2) (h : DataW.trod enc prog w base spare held fuel t cs = some x) : ∃ a b : List UInt8, cs = [.string (bA a), .string (bA b)] := by
  obtain ⟨xs, m, _, _, hl, hn, hel⟩ := DataW.trod_array ht h
  rw [hct] at hl
  match cs, hl with
  | [v0, v1], _ =>
    have h0 := hel 0 (by omega)
    have h1 := hel 1 (by omega)
    rw [hc, List.getElem?_eq_getElem (by omega)] at h0 h1
    obtain ⟨s0, e0, -⟩ := DataW.trod_string he h0
    obtain ⟨s1, e1, -⟩ := DataW.trod_string he h1
    simp at e0 e1
    subst e0 e1
    exact ⟨s0.data.toList, s1.data.toList, by rw [bA_data, bA_data]⟩
/-- A slice of whatever elements. -/
theorem row_open {fuel t e m : Nat} {v : Value} {x : DataW H × List MemPlace} (ht : prog.underlying t = some (.slice e)) (hc : prog.cellsOf e = m) (hm : 0 < m) {D : Type} (d0 : D) (C : D → List Value → Prop) (hlen : ∀ d cs, C d cs → cs.length = m)
    (ho : ∀ {fuel : Nat} {cs : List Value} {x : DataW H × List MemPlace}, DataW.trod enc prog w base spare held fuel e cs = some x → ∃ d, C d cs) (h : DataW.trod enc prog w base spare held fuel t [v] = some x) :
    ∃ (n : Nat) (d : Nat → D) (f : Nat → List Value), Row w v m n f ∧ ∀ i, i < n → C (d i) (f i) := by
  rcases DataW.trod_slice ht h with ⟨h1, _⟩ | ⟨a, len, cap, elems, rest, q, _, h1, _, _, hlc, _, hle, hel, _⟩
  · simp only [List.cons.injEq, and_true] at h1
    subst h1
    exact ⟨0, fun _ => d0, fun _ => [], Row.nil _ _ _, fun i hi => absurd hi (Nat.not_lt_zero _)⟩
  · simp only [List.cons.injEq, and_true] at h1
    subst h1
    have each : ∀ i, i < len → ∃ (d : D) (cs : List Value), C d cs ∧ ∀ j u, cs[j]? = some u → w.cell? ((a.add (i * m)).add j) = some u := fun i hi => by
      have h3 := hel i hi
      rw [hc, List.getElem?_eq_getElem (by omega), Option.bind_eq_some_iff] at h3
      obtain ⟨cs, hcs, h4⟩ := h3
      obtain ⟨d, hd⟩ := ho h4
      have hh := (World.cells?_some hcs).2.2
      refine ⟨d, cs, hd, fun j u hu => ?_⟩
      have hj := (List.getElem?_eq_some_iff.1 hu).1
      rw [hlen d cs hd] at hj
      rw [hh j hj, hu]
    refine ⟨len, fun i => if h : i < len then (each i h).choose else d0, fun i => if h : i < len then (each i h).choose_spec.choose else [], ⟨some a, cap, rfl, hlc, fun h0 => ?_⟩, fun i hi => ?_⟩
    · have ha : a = ⟨a.block, a.off, none⟩ := by
        obtain ⟨h4, h5⟩ := (each 0 (by omega)).choose_spec.choose_spec
        have hl := hlen _ _ h4
        have := spot_none (h5 0 _ (List.getElem?_eq_getElem (by omega)))
        simpa [Addr.add] using this
      refine ⟨a.block, a.off, by rw [← ha], fun i hi j u hu => ?_⟩
      simp only [dif_pos hi] at hu
      have := (each i hi).choose_spec.choose_spec.2 j u hu
      rw [ha, add_adr, add_adr] at this
      exact this
    · simp only [dif_pos hi]
      exact (each i hi).choose_spec.choose_spec.1
end
end Go.Proofs.Tryz
