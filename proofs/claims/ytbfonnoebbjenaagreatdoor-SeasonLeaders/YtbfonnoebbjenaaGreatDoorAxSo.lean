/- Rows of structures sorted by the library: what the written world leaves of a row, whatever its elements. Leaders sorted by the library: the contract at the season's own comparison. -/
import Derived.Test.YtbfonnoebbjenaaGreatDoorAxTg
import Derived.Shelf.SlSortCmp.WholeK
import Derived.Shelf.SlSortCmp.NoneTotal
import Derived.Test.YtbfonnoebbjenaaGreatDoorAxLa
import Derived.Test.YtbfonnoebbjenaaGreatDoorAxLe
import Derived.Test.YtbfonnoebbjenaaGreatDoorAxShelf
namespace Go.Proofs.Tryz
open Go Go.Am Go.RowKit Go.Op
set_option maxRecDepth 100000

section
variable {α : Type} {enc : α → List Value} {m : Nat}
theorem lenG (hm : ∀ x, (enc x).length = m) (l : List α) : ∀ y ∈ l.map enc, y.length = m := fun y hy => by
  obtain ⟨t, -, rfl⟩ := List.mem_map.1 hy
  exact hm t
theorem flatR_lenG {m : Nat} : ∀ {l : List (List Value)}, (∀ y ∈ l, y.length = m) → (flatR l).length = l.length * m
  | [], _ => by simp [flatR]
  | y :: l, h => by
    have ih := flatR_lenG (l := l) fun z hz => h z (by simp [hz])
    have hy := h y (by simp)
    show (y ++ flatR l).length = _
    rw [List.length_append, ih, hy, List.length_cons, Nat.add_mul]; omega
variable [Inhabited α]
/-- The flat row, place by place. -/
theorem flat_atG (hm : ∀ x, (enc x).length = m) (l : List α) {j : Nat} (hj : j < l.length * m) : (flatR (l.map enc))[j]? = some (Go.Sort.flatK enc m l.toArray)[j]! := by
  have h0 : 0 < m := by
    rcases Nat.eq_zero_or_pos m with rfl | h
    · simp at hj
    · exact h
  have h1 : j / m < l.length := Nat.div_lt_of_lt_mul (by rwa [Nat.mul_comm])
  have h2 : j % m < m := Nat.mod_lt _ h0
  rw [Go.Sort.get_flatK _ _ _ _ (by simpa using hj)]
  have hx : (l.map enc)[j / m]? = some (enc l[j / m]) := by rw [List.getElem?_map, List.getElem?_eq_getElem h1]; rfl
  have hl : j % m < (enc l[j / m]).length := by rw [hm]; exact h2
  have hu : (enc l[j / m])[j % m]? = some (enc l[j / m])[j % m] := List.getElem?_eq_getElem hl
  have h3 := flatR_get (lenG hm l) hx hu
  have e : j / m * m + j % m = j := Nat.div_add_mod' j m
  rw [e] at h3
  rw [h3]
  have e2 : (l.toArray)[j / m]! = l[j / m] := by rw [getElem!_pos l.toArray (j / m) (by simpa using h1)]; simp
  rw [e2, getElem!_pos (enc l[j / m]) (j % m) hl]
theorem holdsG (hm : ∀ x, (enc x).length = m) {W : World} {base e g cap : Nat} {l : List α} (h : OwnRow W base e m (.slice (some ⟨g, 0, none⟩) l.length cap) (l.map enc)) : Go.Sort.HoldsK enc m W g 0 l.toArray := by
  intro j hj
  have hj' : j < l.length * m := by simpa using hj
  have h0 : 0 < m := by
    rcases Nat.eq_zero_or_pos m with rfl | h
    · simp at hj'
    · exact h
  have h1 : j / m < l.length := Nat.div_lt_of_lt_mul (by rwa [Nat.mul_comm])
  have h2 : j % m < m := Nat.mod_lt _ h0
  have hx : (l.map enc)[j / m]? = some (enc l[j / m]) := by rw [List.getElem?_map, List.getElem?_eq_getElem h1]; rfl
  have hl : j % m < (enc l[j / m]).length := by rw [hm]; exact h2
  have hu : (enc l[j / m])[j % m]? = some (enc l[j / m])[j % m] := List.getElem?_eq_getElem hl
  have hc := OwnRow.cell h hx hu
  have h3 := flatR_get (lenG hm l) hx hu
  have e : j / m * m + j % m = j := Nat.div_add_mod' j m
  rw [e] at hc h3
  rw [flat_atG hm l hj'] at h3
  rw [Nat.zero_add, Option.some.inj h3]
  exact hc
theorem put_blockG {W : World} {g n e : Nat} {cur : Array Value} {l : List α} {os : Array Obj} (h : W.heap[g]? = some (.cells cur e (0, 0))) :
    (Go.Sort.grow (Go.Sort.putRowK enc m (Go.Sort.ahead W n) g 0 l.toArray) os).heap[g]? = some (.cells (Go.Sort.putCells id 0 (Go.Sort.flatK enc m l.toArray) cur) e (0, 0)) := by
  have hlt := (Array.getElem?_eq_some_iff.1 h).1
  show ((W.heap.modify g _) ++ os)[g]? = _
  rw [Array.getElem?_append_left (by simpa using hlt), Array.getElem?_modify, h]
  simp [Go.Sort.onCells]
theorem put_otherG {W : World} {g n i : Nat} {d : Array α} {os : Array Obj} (hi : i < W.heap.size) (hne : i ≠ g) :
    (Go.Sort.grow (Go.Sort.putRowK enc m (Go.Sort.ahead W n) g 0 d) os).heap[i]? = W.heap[i]? := by
  show ((W.heap.modify g _) ++ os)[i]? = _
  rw [Array.getElem?_append_left (by simpa using hi), Array.getElem?_modify, if_neg (fun e => hne e.symm)]
theorem putG (hm : ∀ x, (enc x).length = m) {W : World} {base e g cap n : Nat} {l l' : List α} {os : Array Obj} (h : OwnRow W base e m (.slice (some ⟨g, 0, none⟩) l.length cap) (l.map enc)) (hl : l'.length = l.length) :
    OwnRow (Go.Sort.grow (Go.Sort.putRowK enc m (Go.Sort.ahead W n) g 0 l'.toArray) os) base e m (.slice (some ⟨g, 0, none⟩) l.length cap) (l'.map enc) := by
  rcases h.1.2 with ⟨e0, h0⟩ | ⟨g', cap', cur, e0, h1, h2, h3, h4, h5, h6⟩
  · cases e0
  · simp only [Value.slice.injEq, Option.some.injEq, Addr.mk.injEq, and_true] at e0
    obtain ⟨rfl, -, rfl⟩ := e0
    rw [List.length_map] at h3
    have hlen := flatR_lenG (lenG hm l')
    rw [List.length_map] at hlen
    refine ⟨⟨by rw [List.length_map]; exact hlen, .inr ⟨g, cap, Go.Sort.putCells id 0 (Go.Sort.flatK enc m l'.toArray) cur, by rw [List.length_map, hl], h1, put_blockG h2, by rw [List.length_map, hl]; exact h3, h4, by simpa [Go.Sort.putCells] using h5, ?_⟩⟩, lenG hm l'⟩
    rw [List.length_map]
    apply List.ext_getElem?
    intro k
    have hcs : l'.length * m ≤ cur.size := by rw [h5, hl]; exact Nat.mul_le_mul_right _ h3
    by_cases hk : k < l'.length * m
    · rw [flat_atG hm l' hk, List.getElem?_take_of_lt hk, Array.getElem?_toList]
      have hkc : k < cur.size := Nat.lt_of_lt_of_le hk hcs
      simp only [Go.Sort.putCells, Array.getElem?_mapIdx, Array.getElem?_eq_getElem hkc, Option.map_some]
      rw [if_pos ⟨Nat.zero_le _, by simpa using hk⟩]
      simp
    · have hz : (flatR (l'.map enc))[k]? = none := List.getElem?_eq_none (by rw [hlen]; omega)
      rw [hz, List.getElem?_eq_none (by rw [List.length_take]; omega)]
theorem keepsG {W : World} {base g n : Nat} {d : Array α} {os : Array Obj} (hg : base ≤ g) : Keeps base W (Go.Sort.grow (Go.Sort.putRowK enc m (Go.Sort.ahead W n) g 0 d) os) := fun w0 h0 hb => by
  refine ⟨h0.os, h0.tape, h0.output, ?_, fun i hi => ?_⟩
  · have := h0.size
    rw [Go.Sort.size_grow]
    show w0.heap.size ≤ (Go.Sort.putRow id (Go.Sort.ahead W n) g 0 _).heap.size + _
    rw [Go.Sort.size_putRow]
    exact Nat.le_trans this (Nat.le_add_right _ _)
  · rw [put_otherG (Nat.lt_of_lt_of_le hi h0.size) (by omega)]
    exact h0.block i hi
theorem sorted_listG {cf : α → α → Int} {d' : Array α} {l : List α} (hp : Go.Sort.PermIn 0 l.toArray.size l.toArray d') (hs : Go.Sort.SortedIn (ltOf cf) 0 l.toArray.size d') : d'.toList.Perm l ∧ (d'.toList.Pairwise fun a b => ltOf cf b a = false) ∧ d'.toList.length = l.length := by
  obtain ⟨h1, -, h3⟩ := hp
  have e0 : d'.size = l.length := by simpa using h1
  have e1 : d'.extract 0 l.toArray.size = d' := by rw [← h1]; simp
  have e2 : l.toArray.extract 0 l.toArray.size = l.toArray := by simp
  rw [e1, e2] at h3
  have hpm : d'.toList.Perm l := h3
  refine ⟨hpm, ?_, by simpa using e0⟩
  rw [List.pairwise_iff_getElem]
  intro i j hi hj hij
  have hi' : i < d'.size := by simpa using hi
  have hj' : j < d'.size := by simpa using hj
  have := hs i j (Nat.zero_le _) hij (by rw [← h1]; exact hj')
  rw [getElem!_pos d' i hi', getElem!_pos d' j hj'] at this
  simp only [Array.getElem_toList]
  exact this
/-- A row that is sorted: its cells behind the call. -/
theorem cell_sortG {W : World} {g n b o : Nat} {d : Array α} {os : Array Obj} {v : Value} (h : W.cell? ⟨b, o, none⟩ = some v) (hne : b ≠ g) : (sortWorldK enc m W g 0 n d os).cell? ⟨b, o, none⟩ = some v := by
  have hlt := cell_under h
  have := put_otherG (enc := enc) (m := m) (W := W) (g := g) (n := n) (d := d) (os := os) hlt hne
  unfold sortWorldK
  simp only [World.cell?] at h ⊢
  rw [this]
  exact h
end
end Go.Proofs.Tryz

namespace Go.Proofs.Tryz
open Go Go.Am Go.RowKit Go.Op
set_option maxRecDepth 100000

/-- A total with a rate. -/
def PosB (i k : Nat) (t : Tot) : Prop := (0 ≤ t.c i ∧ t.c i ≤ 999999999) ∧ 1 ≤ t.c k ∧ t.c k ≤ 999999999
abbrev TotB (i k : Nat) := {t : Tot // PosB i k t}
instance (i k : Nat) : Inhabited (TotB i k) := ⟨⟨⟨[], 0, fun _ => 1⟩, by unfold PosB; simp⟩⟩
def encB (i k : Nat) (x : TotB i k) : List Value := x.1.cells
theorem encB_len (i k : Nat) (x : TotB i k) : (encB i k x).length = 14 := Tot.len x.1
theorem encB_one (i k : Nat) (x : TotB i k) : ∀ v ∈ encB i k x, v.oneCell' = true := Tot.one x.1
def cfB (i k : Nat) (x y : TotB i k) : Int := fstE [cmpI (y.1.c i * x.1.c k) (x.1.c i * y.1.c k), cmpS x.1.p y.1.p]
theorem cmpS_neg (a b : List UInt8) : cmpS a b < 0 ↔ bytesLess a b = true := by
  unfold cmpS
  cases h : bytesLess a b
  · by_cases h2 : (a == b) = true <;> simp [h2]
  · simp
theorem cfB_lt (i k : Nat) (x y : TotB i k) : ltOf (cfB i k) x y = ltL i k x.1 y.1 := by
  rw [Bool.eq_iff_iff, ltL_iff]
  unfold ltOf cfB leR
  rw [decide_eq_true_eq]
  generalize y.1.c i * x.1.c k = u
  generalize x.1.c i * y.1.c k = v
  have hS := cmpS_neg x.1.p y.1.p
  unfold cmpI
  by_cases h1 : u < v
  · rw [if_pos h1]
    simp only [fstE]
    exact ⟨fun _ => .inl (by omega), fun _ => by rw [if_neg (by decide)]; decide⟩
  · rw [if_neg h1]
    by_cases h2 : v < u
    · rw [if_pos h2]
      simp only [fstE]
      exact ⟨fun h => by rw [if_neg (by decide)] at h; exact absurd h (by decide), fun h => by rcases h with h | ⟨h, -⟩ <;> omega⟩
    · rw [if_neg h2]
      simp only [fstE, if_true]
      have e : (if cmpS x.1.p y.1.p = 0 then 0 else cmpS x.1.p y.1.p) = cmpS x.1.p y.1.p := by split <;> simp_all
      rw [e, hS]
      exact ⟨fun h => .inr ⟨by omega, h⟩, fun h => by
        rcases h with h | ⟨-, h⟩
        · omega
        · exact h⟩
theorem PosB.pos {i k : Nat} {t : Tot} (h : PosB i k t) : 0 < t.c k := by have := h.2.1; omega
theorem swoB (i k : Nat) : Go.Sort.SWO (ltOf (cfB i k)) := by
  refine ⟨fun x => by rw [cfB_lt, ltL_irrefl], fun x y z h1 h2 => ?_, fun x y z h1 h2 => ?_⟩
  · rw [cfB_lt] at *; exact ltL_trans x.2.pos y.2.pos z.2.pos h1 h2
  · rw [cfB_lt] at *; exact ltL_ntrans x.2.pos y.2.pos z.2.pos h1 h2
theorem mul_in {a b : Int} (h1 : 0 ≤ a ∧ a ≤ 999999999) (h2 : 1 ≤ b ∧ b ≤ 999999999) : 0 ≤ a * b ∧ a * b ≤ 999999999 * 999999999 :=
  ⟨Int.mul_nonneg h1.1 (by omega), Int.mul_le_mul h1.2 h2.2 (by omega) (by omega)⟩
theorem mul_inI {a b : Int} (h1 : 0 ≤ a ∧ a ≤ 999999999) (h2 : 1 ≤ b ∧ b ≤ 999999999) : inI (a * b) := by
  have := mul_in h1 h2
  unfold inI
  omega
theorem sortLd_w {i k : Nat} (hi : i < 12) (hk : k < 12) {a b c : Nat} {W : World} {base : Nat} {v : Value} {l : List Tot} (h : OwnTots W base 66 v l) (hn : l.length ≤ 10000) (hpos : ∀ t ∈ l, PosB i k t) (hd : l.Pairwise fun a b => a.p ≠ b.p)
    (ha : W.cell? ⟨a, 0, none⟩ = some (.int .i64 i)) (hb : W.cell? ⟨b, 0, none⟩ = some (.int .i64 k)) (hc : W.cell? ⟨c, 0, none⟩ = some (.func (.func 100) #[] #[.pointer (some ⟨a, 0, none⟩), .pointer (some ⟨b, 0, none⟩)]))
    (hne : ∀ q, v.ownBlock = some q → a ≠ q ∧ b ≠ q ∧ c ≠ q) :
    Calls prog 102 #[v, .func (.func 103) #[] #[.pointer (some ⟨c, 0, none⟩)]] W fun e w' => e = .returned (.tuple #[]) ∧ ∃ l' : List Tot, l'.Perm l ∧ SortL i k l' ∧ OwnTots w' base 66 v l' ∧ Keeps base W w' ∧ ∀ q cs e, v.ownBlock ≠ some q → At W q cs e → At w' q cs e := by
  rcases h.1.2 with ⟨rfl, h0⟩ | ⟨g, cap, cur, rfl, h1, h2, h3, h4, h5, h6⟩
  · have hl : l = [] := by simpa using h0
    subst hl
    have hcon := AnyF.slices_SortFunc_none sortTSL none 0 (.func (.func 103) #[] #[.pointer (some ⟨c, 0, none⟩)]) W
    change Calls prog 102 _ _ _ at hcon
    refine hcon.mono ?_
    rintro e w' ⟨rfl, rfl⟩
    exact ⟨rfl, [], List.Perm.refl _, List.Pairwise.nil, h, Keeps.refl _ _, fun _ _ _ _ h => h⟩
  · obtain ⟨L, rfl⟩ : ∃ L : List (TotB i k), L.map Subtype.val = l := ⟨l.pmap (fun t h => ⟨t, h⟩) hpos, by simp [List.map_pmap]⟩
    have hrow : OwnRow W base 66 14 (.slice (some ⟨g, 0, none⟩) L.length cap) (L.map (encB i k)) := by
      have := h
      unfold OwnTots at this
      rw [List.length_map, List.length_map, List.map_map] at this
      exact this
    rw [List.length_map] at hn
    rw [List.length_map, List.length_map] at h h3 ⊢
    obtain ⟨hq1, hq2, hq3⟩ := hne g rfl
    have hlt : g < W.heap.size := (Array.getElem?_eq_some_iff.1 h2).1
    have eg : ∀ args w, (callFunc 103 args).run prog w = .ok (.enter 103 args) w := enters_of func103 (by kernel_rfl) rfl
    have hcon := AnyQ.slices_SortFunc sortTSL 14 isAgg66 sizeOf66 (encB i k) (encB_len i k) (encB_one i k) (cfB i k) (swoB i k) 103 #[.pointer (some ⟨c, 0, none⟩)] g 0 cap L.toArray W eg
      (fun n os dk _ x y => clo103 x.1 y.1 i k hi hk (sortWorldK (encB i k) 14 W g 0 n dk os) (cell_sortG ha hq1) (cell_sortG hb hq2) (cell_sortG hc hq3) (mul_inI y.2.1 x.2.2) (mul_inI x.2.1 y.2.2))
      (holdsG (encB_len i k) hrow) hlt (by simp; omega)
    change Calls prog 102 _ _ _ at hcon
    rw [List.size_toArray] at hcon
    refine hcon.mono ?_
    rintro e w' ⟨rfl, d', n, os, hp, hs, rfl⟩
    obtain ⟨q1, q2, q3⟩ := sorted_listG hp hs
    have hrow2 := putG (encB_len i k) (n := n) (os := os) hrow q3
    refine ⟨rfl, d'.toList.map Subtype.val, q1.map _, ?_, ?_, keepsG h1, fun q cs e hq hat => (put_otherG hat.lt (fun e => hq (by rw [e]; rfl))).trans hat⟩
    · have hd2 : (d'.toList.map Subtype.val).Pairwise fun a b => a.p ≠ b.p := (List.Perm.pairwise_iff (fun {a b} h => Ne.symm h) (q1.map Subtype.val)).2 hd
      unfold SortL
      rw [List.pairwise_map] at hd2 ⊢
      refine (List.Pairwise.and hd2 q2).imp ?_
      rintro x y ⟨hne, hno⟩
      rw [cfB_lt] at hno
      obtain ⟨r1, r2⟩ := ltL_no.1 hno
      refine ltL_iff.2 ?_
      by_cases hle : leR i k x.1 y.1
      · refine .inr ⟨r1, ?_⟩
        have r3 := r2 hle
        cases hbl : bytesLess x.1.p y.1.p with
        | true => rfl
        | false => exact absurd (bl_tri hbl r3) hne
      · exact .inl hle
    · unfold OwnTots
      rw [List.map_map]
      exact hrow2
#print axioms sortLd_w
end Go.Proofs.Tryz
