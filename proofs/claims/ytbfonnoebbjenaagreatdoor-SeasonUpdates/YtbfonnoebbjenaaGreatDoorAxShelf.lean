/- DERIVED: THE SHELF's CONTRACTS AT THIS DUMP, IN PLAIN WORDS (tools/lay-plain.mjs out of 'AxShelf.lean', which tools/lay-shelf.mjs wrote): THE SAME DECLARATIONS UNDER THE SAME NAMES: 'import', 'namespace', 'open', 'def', 'theorem' AND NOTHING ELSE: no command of the shelf's: FOR A HAND-IN. Each laying: the table of numbers ('.._ren') and one theorem, a field a fact of the dump's own or the kernel's comparison; each contract: ONE APPLICATION. The sort of a row of totals by player: the library's contract at this program's instance, and what it leaves of the row. DERIVED: THE SHELF's CONTRACTS AT THIS DUMP, IN PLAIN WORDS (tools/lay-plain.mjs out of 'AxShelg.lean', which tools/lay-shelf.mjs wrote): THE SAME DECLARATIONS UNDER THE SAME NAMES: 'import', 'namespace', 'open', 'def', 'theorem' AND NOTHING ELSE: no command of the shelf's: FOR A HAND-IN. Each laying: the table of numbers ('.._ren') and one theorem, a field a fact of the dump's own or the kernel's comparison; each contract: ONE APPLICATION. Rows of totals joined (slices.Grow, slices.Concat): by the kit's walk. -/
import Derived.Shelf.SlGeneric
import Derived.Shelf.SlSortCmp.WholeK
import Derived.Ground.SlsfProg
import Derived.Ground.NamesProg
import Derived.Test.YtbfonnoebbjenaaGreatDoorProg
import Derived.Test.YtbfonnoebbjenaaGreatDoorAxTj
import Derived.Shelf.SlSortCmp.NoneTotal
import Derived.Shelf.Spec.SlicesGrow
import Derived.Ground.Names7Prog
namespace Go.Proofs
open Go.Shelf
def Tryz.sortTSL_ren : Go.Shelf.Ren := ⟨fun | 6 => 102 | 15 => 149 | 14 => 148 | 28 => 188 | 29 => 189 | 20 => 180 | 21 => 181 | 22 => 182 | 23 => 183 | 24 => 184 | 25 => 185 | 26 => 186 | 27 => 187 | 46 => 208 | 47 => 209 | 48 => 210 | 49 => 211 | 50 => 212 | 57 => 233 | n => n, fun | 22 => 25 | 24 => 66 | 25 => 166 | 3 => 3 | 39 => 224 | 0 => 0 | 53 => 264 | 55 => 266 | 4 => 4 | 46 => 257 | 45 => 256 | 50 => 261 | 5 => 5 | 9 => 9 | 66 => 278 | 70 => 282 | 76 => 297 | 77 => 298 | n => n, fun | n => n⟩
theorem Tryz.sortTSL : Go.Proofs.SlLaysF0.n6 Tryz.prog Tryz.sortTSL_ren := {
  mixed := by kernel_rfl
  f6 := ⟨Tryz.f102.name, by decide, Tryz.func102.trans (congrArg some (by kernel_rfl))⟩
  f14 := ⟨Tryz.f148.name, by decide, Tryz.func148.trans (congrArg some (by kernel_rfl))⟩
  f15 := Tryz.func149.trans (congrArg some (by kernel_rfl))
  f20 := ⟨Tryz.f180.name, by decide, Tryz.func180.trans (congrArg some (by kernel_rfl))⟩
  f21 := ⟨Tryz.f181.name, by decide, Tryz.func181.trans (congrArg some (by kernel_rfl))⟩
  f22 := ⟨Tryz.f182.name, by decide, Tryz.func182.trans (congrArg some (by kernel_rfl))⟩
  f23 := ⟨Tryz.f183.name, by decide, Tryz.func183.trans (congrArg some (by kernel_rfl))⟩
  f24 := ⟨Tryz.f184.name, by decide, Tryz.func184.trans (congrArg some (by kernel_rfl))⟩
  f25 := ⟨Tryz.f185.name, by decide, Tryz.func185.trans (congrArg some (by kernel_rfl))⟩
  f26 := ⟨Tryz.f186.name, by decide, Tryz.func186.trans (congrArg some (by kernel_rfl))⟩
  f27 := ⟨Tryz.f187.name, by decide, Tryz.func187.trans (congrArg some (by kernel_rfl))⟩
  f28 := Tryz.func188.trans (congrArg some (by kernel_rfl))
  f29 := Tryz.func189.trans (congrArg some (by kernel_rfl))
  f46 := ⟨Tryz.f208.name, by decide, Tryz.func208.trans (congrArg some (by kernel_rfl))⟩
  f47 := Tryz.func209.trans (congrArg some (by kernel_rfl))
  f48 := Tryz.func210.trans (congrArg some (by kernel_rfl))
  f49 := ⟨Tryz.f211.name, by decide, Tryz.func211.trans (congrArg some (by kernel_rfl))⟩
  f50 := ⟨Tryz.f212.name, by decide, Tryz.func212.trans (congrArg some (by kernel_rfl))⟩
  f57 := ⟨Tryz.f233.name, by decide, Tryz.func233.trans (congrArg some (by kernel_rfl))⟩
  t0 := Tryz.underlying0
  a0 := Tryz.isAgg0
  z0 := Tryz.sizeOf0
  v0 := Tryz.zeroValue0
  t3 := Tryz.underlying3
  a3 := Tryz.isAgg3
  z3 := Tryz.sizeOf3
  v3 := Tryz.zeroValue3
  t4 := Tryz.underlying4
  a4 := Tryz.isAgg4
  z4 := Tryz.sizeOf4
  v4 := Tryz.zeroValue4
  t5 := Tryz.underlying5
  a5 := Tryz.isAgg5
  z5 := Tryz.sizeOf5
  v5 := Tryz.zeroValue5
  t9 := Tryz.underlying9
  a9 := Tryz.isAgg9
  z9 := Tryz.sizeOf9
  v9 := Tryz.zeroValue9
  t22 := Tryz.underlying25
  a22 := Tryz.isAgg25
  z22 := Tryz.sizeOf25
  v22 := Tryz.zeroValue25
  t25 := Tryz.underlying166
  a25 := Tryz.isAgg166
  z25 := Tryz.sizeOf166
  v25 := Tryz.zeroValue166
  t39 := Tryz.underlying224
  a39 := Tryz.isAgg224
  z39 := Tryz.sizeOf224
  v39 := Tryz.zeroValue224
  t45 := Tryz.underlying256
  a45 := Tryz.isAgg256
  z45 := Tryz.sizeOf256
  v45 := Tryz.zeroValue256
  t46 := Tryz.underlying257
  a46 := Tryz.isAgg257
  z46 := Tryz.sizeOf257
  v46 := Tryz.zeroValue257
  t50 := Tryz.underlying261
  a50 := Tryz.isAgg261
  z50 := Tryz.sizeOf261
  v50 := Tryz.zeroValue261
  t53 := Tryz.underlying264
  a53 := Tryz.isAgg264
  z53 := Tryz.sizeOf264
  v53 := Tryz.zeroValue264
  t55 := Tryz.underlying266
  a55 := Tryz.isAgg266
  z55 := Tryz.sizeOf266
  v55 := Tryz.zeroValue266
  t66 := Tryz.underlying278
  a66 := Tryz.isAgg278
  z66 := Tryz.sizeOf278
  v66 := Tryz.zeroValue278
  t70 := Tryz.underlying282
  a70 := Tryz.isAgg282
  z70 := Tryz.sizeOf282
  v70 := Tryz.zeroValue282
  t76 := Tryz.underlying297
  a76 := Tryz.isAgg297
  z76 := Tryz.sizeOf297
  v76 := Tryz.zeroValue297
  t77 := Tryz.underlying298
  a77 := Tryz.isAgg298
  z77 := Tryz.sizeOf298
  v77 := Tryz.zeroValue298 }
end Go.Proofs

namespace Go.Proofs.Tryz
open Go Go.Am Go.RowKit Go.Op
set_option maxRecDepth 100000

instance : Inhabited Tot := ⟨tot0⟩
def cfT (x y : Tot) : Int := cmpS x.p y.p
theorem ltT (x y : Tot) : ltOf cfT x y = bytesLess x.p y.p := by
  unfold ltOf cfT cmpS
  cases h : bytesLess x.p y.p
  · by_cases h2 : (x.p == y.p) = true <;> simp [h2]
  · simp
theorem swoT : Go.Sort.SWO (ltOf cfT) := by
  refine ⟨fun x => by rw [ltT, bl_irrefl], fun x y z h1 h2 => ?_, fun x y z h1 h2 => ?_⟩
  · rw [ltT] at *; exact bl_trans h1 h2
  · rw [ltT] at *
    cases h : bytesLess x.p z.p with
    | false => rfl
    | true =>
      cases h3 : bytesLess y.p x.p with
      | true => have := bl_trans h3 h; rw [h2] at this; cases this
      | false => have e := bl_tri h1 h3; rw [← e, h] at h2; cases h2

set_option maxHeartbeats 1600000 in
theorem closure143 (x y : Tot) (W : World) : Calls prog 143 #[.agg x.cells.toArray, .agg y.cells.toArray] W fun e w' => e = .returned (.int .i64 (cfT x y)) ∧ ∃ q os', w' = Go.Sort.grow (W.drewN q) os' := by
  have hcon := fun W' => cmpS_w x.p y.p W'
  unfold cfT
  generalize cmpS x.p y.p = r at hcon ⊢
  rw [Tot.arr_eq, Tot.arr_eq]
  unfold Tot.arr
  go_enter func143, ntmps143
  go_wp2_with (go_at_call 105; refine (hcon _).mono ?_; rintro e w' ⟨rfl, rfl⟩)
  go_ret
  exact ⟨rfl, 0, _, by rw [Go.Sort.alloc_eq_grow, Go.Sort.alloc_eq_grow, Go.Sort.grow_grow]; rfl⟩

theorem flatR_length {m : Nat} : ∀ {l : List (List Value)}, (∀ y ∈ l, y.length = m) → (flatR l).length = l.length * m
  | [], _ => by simp [flatR]
  | y :: l, h => by
    have ih := flatR_length (l := l) fun z hz => h z (by simp [hz])
    have hy := h y (by simp)
    show (y ++ flatR l).length = _
    rw [List.length_append, ih, hy, List.length_cons, Nat.add_mul]; omega
theorem cells_len (l : List Tot) : ∀ y ∈ l.map Tot.cells, y.length = 14 := fun y hy => by
  obtain ⟨t, -, rfl⟩ := List.mem_map.1 hy
  exact Tot.len t
/-- The flat row, place by place. -/
theorem flat_at (l : List Tot) {j : Nat} (hj : j < l.length * 14) : (flatR (l.map Tot.cells))[j]? = some (Go.Sort.flatK Tot.cells 14 l.toArray)[j]! := by
  have h1 : j / 14 < l.length := by omega
  have h2 : j % 14 < 14 := Nat.mod_lt _ (by decide)
  rw [Go.Sort.get_flatK _ _ _ _ (by simpa using hj)]
  have hx : (l.map Tot.cells)[j / 14]? = some l[j / 14].cells := by rw [List.getElem?_map, List.getElem?_eq_getElem h1]; rfl
  have hl : j % 14 < l[j / 14].cells.length := by rw [Tot.len]; exact h2
  have hu : l[j / 14].cells[j % 14]? = some l[j / 14].cells[j % 14] := List.getElem?_eq_getElem hl
  have h3 := flatR_get (cells_len l) hx hu
  have e : j / 14 * 14 + j % 14 = j := Nat.div_add_mod' j 14
  rw [e] at h3
  rw [h3]
  have e2 : (l.toArray)[j / 14]! = l[j / 14] := by rw [getElem!_pos l.toArray (j / 14) (by simpa using h1)]; simp
  rw [e2, getElem!_pos l[j / 14].cells (j % 14) hl]
theorem holdsT {W : World} {base g cap : Nat} {l : List Tot} (h : OwnTots W base 66 (.slice (some ⟨g, 0, none⟩) l.length cap) l) : Go.Sort.HoldsK Tot.cells 14 W g 0 l.toArray := by
  intro j hj
  have hj' : j < l.length * 14 := by simpa using hj
  have h1 : j / 14 < l.length := by omega
  have h2 : j % 14 < 14 := Nat.mod_lt _ (by decide)
  have hx : (l.map Tot.cells)[j / 14]? = some l[j / 14].cells := by rw [List.getElem?_map, List.getElem?_eq_getElem h1]; rfl
  have hl : j % 14 < l[j / 14].cells.length := by rw [Tot.len]; exact h2
  have hu : l[j / 14].cells[j % 14]? = some l[j / 14].cells[j % 14] := List.getElem?_eq_getElem hl
  have hc := OwnRow.cell h hx hu
  have h3 := flatR_get (cells_len l) hx hu
  have e : j / 14 * 14 + j % 14 = j := Nat.div_add_mod' j 14
  rw [e] at hc h3
  rw [flat_at l hj'] at h3
  rw [Nat.zero_add, Option.some.inj h3]
  exact hc
theorem put_block {W : World} {g n : Nat} {cur : Array Value} {l : List Tot} {os : Array Obj} (h : W.heap[g]? = some (.cells cur 66 (0, 0))) :
    (Go.Sort.grow (Go.Sort.putRowK Tot.cells 14 (Go.Sort.ahead W n) g 0 l.toArray) os).heap[g]? = some (.cells (Go.Sort.putCells id 0 (Go.Sort.flatK Tot.cells 14 l.toArray) cur) 66 (0, 0)) := by
  have hlt := (Array.getElem?_eq_some_iff.1 h).1
  show ((W.heap.modify g _) ++ os)[g]? = _
  rw [Array.getElem?_append_left (by simpa using hlt), Array.getElem?_modify, h]
  simp [Go.Sort.onCells]
theorem put_other {W : World} {g n i : Nat} {d : Array Tot} {os : Array Obj} (hi : i < W.heap.size) (hne : i ≠ g) :
    (Go.Sort.grow (Go.Sort.putRowK Tot.cells 14 (Go.Sort.ahead W n) g 0 d) os).heap[i]? = W.heap[i]? := by
  show ((W.heap.modify g _) ++ os)[i]? = _
  rw [Array.getElem?_append_left (by simpa using hi), Array.getElem?_modify, if_neg (fun e => hne e.symm)]
theorem putT {W : World} {base g cap n : Nat} {l l' : List Tot} {os : Array Obj} (h : OwnTots W base 66 (.slice (some ⟨g, 0, none⟩) l.length cap) l) (hl : l'.length = l.length) :
    OwnTots (Go.Sort.grow (Go.Sort.putRowK Tot.cells 14 (Go.Sort.ahead W n) g 0 l'.toArray) os) base 66 (.slice (some ⟨g, 0, none⟩) l.length cap) l' := by
  rcases h.1.2 with ⟨e0, h0⟩ | ⟨g', cap', cur, e0, h1, h2, h3, h4, h5, h6⟩
  · cases e0
  · simp only [Value.slice.injEq, Option.some.injEq, Addr.mk.injEq, and_true] at e0
    obtain ⟨rfl, -, rfl⟩ := e0
    rw [List.length_map] at h3
    have hlen := flatR_length (cells_len l')
    rw [List.length_map] at hlen
    refine ⟨⟨by rw [List.length_map]; exact hlen, .inr ⟨g, cap, Go.Sort.putCells id 0 (Go.Sort.flatK Tot.cells 14 l'.toArray) cur, by rw [List.length_map, hl], h1, put_block h2, by rw [List.length_map, hl]; exact h3, h4, by simpa [Go.Sort.putCells] using h5, ?_⟩⟩, cells_len l'⟩
    rw [List.length_map]
    apply List.ext_getElem?
    intro k
    have hcs : l'.length * 14 ≤ cur.size := by rw [h5, hl]; exact Nat.mul_le_mul_right _ h3
    by_cases hk : k < l'.length * 14
    · rw [flat_at l' hk, List.getElem?_take_of_lt hk, Array.getElem?_toList]
      have hkc : k < cur.size := Nat.lt_of_lt_of_le hk hcs
      simp only [Go.Sort.putCells, Array.getElem?_mapIdx, Array.getElem?_eq_getElem hkc, Option.map_some]
      rw [if_pos ⟨Nat.zero_le _, by simpa using hk⟩]
      simp
    · have hz : (flatR (l'.map Tot.cells))[k]? = none := List.getElem?_eq_none (by rw [hlen]; omega)
      rw [hz, List.getElem?_eq_none (by rw [List.length_take]; omega)]
theorem keepsT {W : World} {base g n : Nat} {d : Array Tot} {os : Array Obj} (hg : base ≤ g) : Keeps base W (Go.Sort.grow (Go.Sort.putRowK Tot.cells 14 (Go.Sort.ahead W n) g 0 d) os) := fun w0 h0 hb => by
  refine ⟨h0.os, h0.tape, h0.output, ?_, fun i hi => ?_⟩
  · have := h0.size
    rw [Go.Sort.size_grow]
    show w0.heap.size ≤ (Go.Sort.putRow id (Go.Sort.ahead W n) g 0 _).heap.size + _
    rw [Go.Sort.size_putRow]
    exact Nat.le_trans this (Nat.le_add_right _ _)
  · rw [put_other (Nat.lt_of_lt_of_le hi h0.size) (by omega)]
    exact h0.block i hi
theorem sorted_list {d' : Array Tot} {l : List Tot} (hp : Go.Sort.PermIn 0 l.toArray.size l.toArray d') (hs : Go.Sort.SortedIn (ltOf cfT) 0 l.toArray.size d') (hn : l.Pairwise fun a b => a.p ≠ b.p) : d'.toList.Perm l ∧ SortT d'.toList ∧ d'.toList.length = l.length := by
  obtain ⟨h1, -, h3⟩ := hp
  have e0 : d'.size = l.length := by simpa using h1
  have e1 : d'.extract 0 l.toArray.size = d' := by rw [← h1]; simp
  have e2 : l.toArray.extract 0 l.toArray.size = l.toArray := by simp
  rw [e1, e2] at h3
  have hpm : d'.toList.Perm l := h3
  refine ⟨hpm, ?_, by simpa using e0⟩
  have hn' : d'.toList.Pairwise fun a b => a.p ≠ b.p := (List.Perm.pairwise_iff (fun {a b} h => Ne.symm h) hpm).2 hn
  unfold SortT
  rw [List.pairwise_iff_getElem] at hn' ⊢
  intro i j hi hj hij
  have hd := hn' i j hi hj hij
  have hi' : i < d'.size := by simpa using hi
  have hj' : j < d'.size := by simpa using hj
  have := hs i j (Nat.zero_le _) hij (by rw [← h1]; exact hj')
  rw [ltT, getElem!_pos d' i hi', getElem!_pos d' j hj'] at this
  simp only [Array.getElem_toList] at hd ⊢
  cases h : bytesLess d'[i].p d'[j].p with
  | true => rfl
  | false => exact absurd (bl_tri h this) hd

theorem sortsT : SortsT := fun W base v l h hn hd => by
  rcases h.1.2 with ⟨rfl, h0⟩ | ⟨g, cap, cur, rfl, h1, h2, h3, h4, h5, h6⟩
  · have hl : l = [] := by simpa using h0
    subst hl
    have hcon := AnyF.slices_SortFunc_none sortTSL none 0 (.func (.func 143) #[] #[]) W
    change Calls prog 102 _ _ _ at hcon
    refine hcon.mono ?_
    rintro e w' ⟨rfl, rfl⟩
    exact ⟨rfl, [], List.Perm.refl _, List.Pairwise.nil, h, Keeps.refl _ _⟩
  · rw [List.length_map] at h h3 ⊢
    have hlt : g < W.heap.size := (Array.getElem?_eq_some_iff.1 h2).1
    have eg : ∀ args w, (callFunc 143 args).run prog w = .ok (.enter 143 args) w := enters_of func143 (by kernel_rfl) rfl
    have hcon := AnyQ.slices_SortFunc sortTSL 14 isAgg66 sizeOf66 Tot.cells Tot.len Tot.one cfT swoT 143 #[] g 0 cap l.toArray W eg (fun _ _ _ _ x y => closure143 x y _) (holdsT h) hlt (by simp; omega)
    change Calls prog 102 _ _ _ at hcon
    rw [List.size_toArray] at hcon
    refine hcon.mono ?_
    rintro e w' ⟨rfl, d', n, os, hp, hs, rfl⟩
    obtain ⟨q1, q2, q3⟩ := sorted_list hp hs hd
    exact ⟨rfl, d'.toList, q1, q2, putT (n := n) (os := os) h q3, keepsT h1⟩
#print axioms sortsT
end Go.Proofs.Tryz

namespace Go.Proofs
open Go.Shelf
def Tryz.growT_ren : Go.Shelf.Ren := ⟨fun | 4 => 165 | n => n, fun | 22 => 25 | 25 => 66 | 3 => 3 | 4 => 4 | 9 => 9 | 20 => 20 | 0 => 0 | n => n, fun | n => n⟩
theorem Tryz.growT : Go.Proofs.Lays8.n4 Tryz.prog Tryz.growT_ren := {
  mixed := by kernel_rfl
  f4 := ⟨Tryz.f165.name, by decide, Tryz.func165.trans (congrArg some (by kernel_rfl))⟩
  t0 := Tryz.underlying0
  a0 := Tryz.isAgg0
  z0 := Tryz.sizeOf0
  v0 := Tryz.zeroValue0
  t3 := Tryz.underlying3
  a3 := Tryz.isAgg3
  z3 := Tryz.sizeOf3
  v3 := Tryz.zeroValue3
  t4 := Tryz.underlying4
  a4 := Tryz.isAgg4
  z4 := Tryz.sizeOf4
  v4 := Tryz.zeroValue4
  t9 := Tryz.underlying9
  a9 := Tryz.isAgg9
  z9 := Tryz.sizeOf9
  v9 := Tryz.zeroValue9
  t20 := Tryz.underlying20
  a20 := Tryz.isAgg20
  z20 := Tryz.sizeOf20
  v20 := Tryz.zeroValue20
  t22 := Tryz.underlying25
  a22 := Tryz.isAgg25
  z22 := Tryz.sizeOf25
  v22 := Tryz.zeroValue25 }
end Go.Proofs

namespace Go.Proofs.Tryz
open Go Go.Am Go.RowKit Go.Op
set_option maxRecDepth 100000

/-- Some room for totals. -/
theorem grow_w (k : Nat) (hk : k ≤ 100000) (w : World) : Calls prog 165 #[.slice none 0 0, .int .i64 (k : Int)] w fun e w' => (∃ u, e = .returned u ∧ OwnTots w' w.heap.size 66 u []) ∧ Below w.heap.size w w' := by
  by_cases h0 : k = 0
  · subst h0
    have hcon := Any8.slices_Grow_room growT none 0 0 0 w (Nat.le_refl _) (by decide) (by decide) (by decide)
    change Calls prog 165 _ _ _ at hcon
    refine hcon.mono ?_
    rintro e w' ⟨rfl, rfl⟩
    exact ⟨⟨_, rfl, OwnTots.start _ _ _⟩, Below.refl _ _⟩
  · obtain ⟨i, hi, hz0, hz1, hz2⟩ := info_more infoT
    have hcon := Any8.slices_Grow_grow growT i _ hi hz0 (by rw [hz1]; decide) none 0 0 k [] w (Nat.le_refl _) (by omega) (by rw [hz2]; omega) (by omega) (by simp) (fun _ => rfl) (fun a ha => by cases ha)
    change Calls prog 165 _ _ _ at hcon
    refine hcon.mono ?_
    rintro e w' ⟨rfl, rfl⟩
    refine ⟨⟨_, rfl, ?_⟩, ?_⟩
    · have hge := grownCap_ge w (0 + k) 0 66
      refine ⟨⟨by simp [flatR], .inr ⟨w.heap.size, _, _, rfl, Nat.le_refl _, heap_alloc_new w.drew _, Nat.zero_le _, grownCap_le_maxLen w (0 + k) 0 66 (by unfold maxLen; omega), ?_, ?_⟩⟩, fun x hx => by simp at hx⟩
      · simp only [Array.size_append, size_zeroCells]
        show (0 + (0 + k - 0) * 14 + (grownCap w (0 + k) 0 66 - (0 + k)) * 14) = _
        change _ = grownCap w (0 + k) 0 66 * 14
        omega
      · simp [flatR]
    · exact ((Below.refl w.heap.size w).drew).alloc (Nat.le_refl _) _
/-- The flat row of a handed list. -/
theorem row_flat {w : World} {l : List Tot} {b off c : Nat} (h : IsTots w (.slice (some ⟨b, off, none⟩) l.length c) l) : ∀ j u, (flatR (l.map Tot.cells))[j]? = some u → w.cell? ((⟨b, off, none⟩ : Addr).add j) = some u := fun j u hu => by
  have hlen := flatR_length (cells_len l)
  rw [List.length_map] at hlen
  have hj : j < l.length * 14 := by rw [← hlen]; exact (List.getElem?_eq_some_iff.1 hu).1
  have h1 : j / 14 < l.length := by omega
  have h2 : j % 14 < 14 := Nat.mod_lt _ (by decide)
  have hx : (l.map Tot.cells)[j / 14]? = some l[j / 14].cells := by rw [List.getElem?_map, List.getElem?_eq_getElem h1]; rfl
  have hl : j % 14 < l[j / 14].cells.length := by rw [Tot.len]; exact h2
  have hu2 : l[j / 14].cells[j % 14]? = some l[j / 14].cells[j % 14] := List.getElem?_eq_getElem hl
  have h3 := flatR_get (cells_len l) hx hu2
  have e : j / 14 * 14 + j % 14 = j := Nat.div_add_mod' j 14
  rw [e, hu] at h3
  obtain ⟨a, c', e1, -, hr⟩ := h
  simp only [Value.slice.injEq, true_and] at e1
  obtain ⟨rfl, rfl⟩ := e1
  obtain ⟨b', off', e2, hr⟩ := hr (by omega)
  simp only [Option.some.injEq, Addr.mk.injEq, and_true] at e2
  obtain ⟨rfl, rfl⟩ := e2
  have := hr (j / 14) h1 (j % 14) u (by show (l[j / 14]?.getD tot0).cells[j % 14]? = some u; rw [List.getElem?_eq_getElem h1, Option.some.inj h3]; exact hu2)
  rw [Nat.add_assoc, e] at this
  rw [add_adr]
  exact this
theorem cells_one (l : List Tot) : ∀ u ∈ flatR (l.map Tot.cells), u.oneCell' = true := fun u hu => by
  obtain ⟨x, hx, hux⟩ := List.mem_flatten.1 hu
  obtain ⟨t, -, rfl⟩ := List.mem_map.1 hx
  exact Tot.one t u hux
theorem flatR_append (l l2 : List (List Value)) : flatR (l ++ l2) = flatR l ++ flatR l2 := by simp [flatR]
/-- A handed list of totals appended onto a row of the call's own. -/
theorem run_appendTs {t e : TypeId} {iT : TypeInfo} {z : Value} (T : ElT t e 14 iT z 120) (ty : TypeId) {w : World} {base : Nat} {l l2 : List Tot} {v v2 : Value} (h : OwnTots w base e v l) (h2 : IsTots w v2 l2) (hn : l.length ≤ 100000) (hn2 : l2.length ≤ 100000) (hbase : base ≤ w.heap.size) :
    ∃ v' w', (Builtin.append_ #[t, t] ty #[v, v2]).run prog w = .ok v' w' ∧ OwnTots w' base e v' (l ++ l2) ∧ w.grownBy w' v.ownBlock := by
  obtain ⟨ad, c, rfl, hc⟩ := h2.slice
  have hlen2 := flatR_length (cells_len l2)
  rw [List.length_map] at hlen2
  have key : ∀ a : Addr, (∀ j u, (flatR (l2.map Tot.cells))[j]? = some u → w.cell? (a.add j) = some u) → ∃ v' w', (Builtin.append_ #[t, t] ty #[v, .slice (some a) l2.length c]).run prog w = .ok v' w' ∧ OwnTots w' base e v' (l ++ l2) ∧ w.grownBy w' v.ownBlock := fun a ha => by
    obtain ⟨v', w', hr, ho, hg, -⟩ := run_append_own (P := prog) w base t ty e iT _ 14 120 T.ht T.hi T.hz T.hs T.hb T.hc T.h0 v _ _ h.1 a l2.length c (flatR (l2.map Tot.cells)) hlen2 ha (cells_one l2) (by rw [List.length_map]; unfold maxLen; omega) (by rw [List.length_map]; omega) hbase
    refine ⟨v', w', hr, ⟨?_, cells_len _⟩, hg⟩
    have e2 : (l2.map Tot.cells).length = l2.length := List.length_map _
    rw [List.map_append, flatR_append, List.length_append, e2]
    exact ho
  cases ad with
  | some a =>
    refine key a ?_
    by_cases h0 : l2 = []
    · subst h0; intro j u hu; simp [flatR] at hu
    · obtain ⟨a', c', e1, -, hr⟩ := h2
      simp only [Value.slice.injEq, true_and] at e1
      obtain ⟨rfl, rfl⟩ := e1
      obtain ⟨b', off', e2, hr⟩ := hr (fun e => h0 (List.length_eq_zero_iff.1 e))
      simp only [Option.some.injEq] at e2
      subst e2
      exact row_flat ⟨_, _, rfl, hc, hr⟩
  | none =>
    have h0 : l2 = [] := by
      obtain ⟨a', c', e1, -, hr⟩ := h2
      by_cases h0 : l2.length = 0
      · exact List.length_eq_zero_iff.1 h0
      · obtain ⟨b', off', e2, hr⟩ := hr h0
        simp only [Value.slice.injEq] at e1
        rw [e2] at e1; cases e1.1
    subst h0
    refine ⟨v, w, ?_, by rw [List.append_nil]; exact h, ⟨rfl, rfl, rfl, Nat.le_refl _, fun _ _ _ => rfl⟩⟩
    rcases h.1.2 with ⟨rfl, e0⟩ | ⟨g, cap, cur, rfl, h1, h2, h3, h4, h5, h6⟩
    · simp [Builtin.append_, run_underlying T.ht, Go.sizeOf, typeInfo, T.hi, Builtin.lenOf, Builtin.firstCells]
    · have h7 : l.length ≤ cap := by rw [List.length_map] at h3; exact h3
      simp [Builtin.append_, run_underlying T.ht, Go.sizeOf, typeInfo, T.hi, Builtin.lenOf, Builtin.firstCells, storeCells, h7]

theorem wpList_appendTs {t e : TypeId} {iT : TypeInfo} {z : Value} (T : ElT t e 14 iT z 120) {ops : Array Oper} {rest : List Oper} {o : Oper} {a : Act} {w : World} {Q : Exit → Act → World → Prop} (hgd : o.guard = none) (s x : Operand)
    (ho : o.op = .call { callee := .builtin .append, args := #[s, x], argTypes := #[t, t] }) {base : Nat} {l l2 : List Tot} {v v2 : Value} (hs : a.eval s = v) (hx : a.eval x = v2)
    (h : OwnTots w base e v l) (h2 : IsTots w v2 l2) (hn : l.length ≤ 100000) (hn2 : l2.length ≤ 100000) (hbase : base ≤ w.heap.size)
    (hK : ∀ v' w', OwnTots w' base e v' (l ++ l2) → w.grownBy w' v.ownBlock → wpList prog ops Q rest (a.put o.dst v') w') : wpList prog ops Q (o :: rest) a w := by
  obtain ⟨v', w', hr, hA, hg⟩ := run_appendTs T o.type h h2 hn hn2 hbase
  refine wpList_plain hgd fun K' hK' => ?_
  unfold Oper.wp execOp
  simp only [ho, resolve, invoke, builtin, Sem.run_bind, Sem.run_pure, Result.andThen_ok, List.map_toArray, List.map_cons, List.map_nil, hs, hx, hr]
  exact hK' _ _ (hK _ _ hA hg)
theorem haltAp {ops : Array Oper} {rest : List Oper} {d : Option Tmp} {t : TypeId} {p : String} {f : Array Edge} {g : Option (Nat × Bool)} {s x : Operand} {ty : Array TypeId} {a : Act} {w : World} {Q : Exit → Act → World → Prop} (h : Halt (wpList prog ops Q (⟨d, Op.call { callee := .builtin .append, args := #[s, x], argTypes := ty }, t, p, f, g⟩ :: rest) a w)) : wpList prog ops Q (⟨d, Op.call { callee := .builtin .append, args := #[s, x], argTypes := ty }, t, p, f, g⟩ :: rest) a w := h

theorem at_two {w : World} {b : Nat} {x y : Value} {e : TypeId} (h : At w b #[x, y] e) : w.cell? ⟨b, 0, none⟩ = some x ∧ w.cell? ⟨b, 1, none⟩ = some y := by
  unfold At at h
  exact ⟨by simp only [World.cell?, h]; rfl, by simp only [World.cell?, h]; rfl⟩
set_option maxHeartbeats 3200000 in
theorem concat_w {w : World} {b : Nat} {v1 v2 : Value} {l1 l2 : List Tot} (hb : At w b #[v1, v2] 25) (h1 : IsTots w v1 l1) (h2 : IsTots w v2 l2) (hn1 : l1.length ≤ 10000) (hn2 : l2.length ≤ 10000) :
    Calls prog 129 #[.slice (some ⟨b, 0, none⟩) 2 2] w fun e w' => (∃ u, e = .returned u ∧ OwnTots w' w.heap.size 66 u (l1 ++ l2)) ∧ Below w.heap.size w w' := by
  obtain ⟨iT, TT⟩ := elT
  have HT := Lib.hid TT
  clear TT
  have hbl := hb.lt
  have hc0 : w.cell? ⟨b, 0, none⟩ = some v1 := by unfold At at hb; simp only [World.cell?, hb]; rfl
  have hc1 : w.cell? ⟨b, 1, none⟩ = some v2 := by unfold At at hb; simp only [World.cell?, hb]; rfl
  have HB := Lib.hid hb
  have H1 := Lib.hid h1
  have H2 := Lib.hid h2
  obtain ⟨a1, c1, rfl, hk1⟩ := h1.slice
  obtain ⟨a2, c2, rfl, hk2⟩ := h2.slice
  clear hb h1 h2
  obtain ⟨n1, hl1⟩ : ∃ n, l1.length = n := ⟨_, rfl⟩
  obtain ⟨n2, hl2⟩ : ∃ n, l2.length = n := ⟨_, rfl⟩
  have HL := Lib.hid (And.intro hl1 hl2)
  rw [hl1] at hc0 hn1 hk1 H1 HB
  rw [hl2] at hc1 hn2 hk2 H2 HB
  clear hl1 hl2
  have cG := grow_w (n1 + n2) (by omega)
  rw [Int.natCast_add] at cG
  have hw1 : wrap64 (n1 : Int) = (n1 : Int) := by simp only [wrap64] at *; omega
  have hw2 : wrap64 ((n1 : Int) + (n2 : Int)) = (n1 : Int) + (n2 : Int) := by simp only [wrap64] at *; omega
  have hp1 : ¬ ((n1 : Int) < 0) := by omega
  have hp2 : ¬ ((n1 : Int) + (n2 : Int) < 0) := by omega
  go_enter func129, ntmps129
  go_wp2_with fail
  go_loopw [3, 11] (fun s3 s11 wr => wr = w ∧ ((s11 = .int .i64 0 ∧ s3 = .int .i64 0) ∨ (s11 = .int .i64 1 ∧ s3 = .int .i64 (n1 : Int)) ∨ (s11 = .int .i64 2 ∧ s3 = .int .i64 ((n1 : Int) + (n2 : Int))))) (fun _ s11 _ => 2 - (numOf' s11).toNat)
  case atStart => exact ⟨rfl, .inl ⟨rfl, rfl⟩⟩
  case round =>
    obtain ⟨rfl, hh⟩ := hrel
    rcases hh with ⟨rfl, rfl⟩ | ⟨rfl, rfl⟩ | ⟨rfl, rfl⟩
    · go_wp2_with fail
      go_roundw
      case rel => exact ⟨by first | trivial | rfl, .inr (.inl ⟨rfl, rfl⟩)⟩
      case measure => simp [numOf'] <;> omega
    · go_wp2_with fail
      go_roundw
      case rel => exact ⟨by first | trivial | rfl, .inr (.inr ⟨rfl, rfl⟩)⟩
      case measure => simp [numOf'] <;> omega
    · clear hp1 hp2 hw1 hw2 hc0 hc1
      go_wp2_with fail
      go_at_call 165
      refine (cG _).mono ?_
      rintro e W ⟨⟨u, rfl, hu⟩, hbw⟩
      clear cG
      have hszw := hbw.size
      go_wp2_with fail
      go_loopw [6, 27] (fun s6 s27 wx => Below wr.heap.size wr wx ∧ ((s27 = .int .i64 0 ∧ OwnTots wx wr.heap.size 66 s6 []) ∨ (s27 = .int .i64 1 ∧ OwnTots wx wr.heap.size 66 s6 l1) ∨ (s27 = .int .i64 2 ∧ OwnTots wx wr.heap.size 66 s6 (l1 ++ l2)))) (fun _ s27 _ => 2 - (numOf' s27).toNat)
      case atStart => exact ⟨hbw, .inl ⟨rfl, hu⟩⟩
      case round =>
        clear hbw hszw hu
        obtain ⟨hbx, hh⟩ := hrel
        have hbB := HB.out.below hbx hbl
        obtain ⟨hc0, hc1⟩ := at_two hbB
        rcases hh with ⟨rfl, hu⟩ | ⟨rfl, hu⟩ | ⟨rfl, hu⟩
        · have hu2 := Lib.hid hu
          clear hu hbB
          go_wp2_with (first
            | (with_reducible refine haltAp ?_)
            | fail)
          unfold Halt
          refine wpList_appendTs HT.out rfl _ _ rfl rfl rfl hu2.out (H1.out.below hbx) (by simp) (by rw [HL.out.1]; omega) hbx.size ?_
          intro v' w' hA hg
          have hb2 := hbx.grown hg hbx.size (fun q hq => (hu2.out.lt q hq).1)
          rw [List.nil_append] at hA
          clear hu2 hg
          go_wp2_with fail
          go_roundw
          case rel => exact ⟨hb2, .inr (.inl ⟨rfl, hA⟩)⟩
          case measure => simp [numOf'] <;> omega
        · have hu2 := Lib.hid hu
          clear hu hbB
          go_wp2_with (first
            | (with_reducible refine haltAp ?_)
            | fail)
          unfold Halt
          refine wpList_appendTs HT.out rfl _ _ rfl rfl rfl hu2.out (H2.out.below hbx) (by rw [HL.out.1]; omega) (by rw [HL.out.2]; omega) hbx.size ?_
          intro v' w' hA hg
          have hb2 := hbx.grown hg hbx.size (fun q hq => (hu2.out.lt q hq).1)
          clear hu2 hg
          go_wp2_with fail
          go_roundw
          case rel => exact ⟨hb2, .inr (.inr ⟨rfl, hA⟩)⟩
          case measure => simp [numOf'] <;> omega
        · have hu2 := Lib.hid hu
          clear hu hbB
          go_wp2_with fail
          go_ret
          exact ⟨⟨_, rfl, hu2.out⟩, hbx⟩
end Go.Proofs.Tryz
