/- The reference's standings: by the kit's walk. Rows of structures sorted by the library: what the written world leaves of a row, whatever its elements. DERIVED: THE SHELF's CONTRACTS AT THIS DUMP, IN PLAIN WORDS (tools/lay-plain.mjs out of 'AxShels.lean', which tools/lay-shelf.mjs wrote): THE SAME DECLARATIONS UNDER THE SAME NAMES: 'import', 'namespace', 'open', 'def', 'theorem' AND NOTHING ELSE: no command of the shelf's: FOR A HAND-IN. Each laying: the table of numbers ('.._ren') and one theorem, a field a fact of the dump's own or the kernel's comparison; each contract: ONE APPLICATION. The season's list of a map of totals, up to the sort: by the kit's walk. -/
import Derived.Test.YtbfonnoebbjenaaGreatDoorAxSb
import Derived.Test.YtbfonnoebbjenaaGreatDoorAxH
import Derived.Deep.CutBlock
import Derived.Deep.CutRange
import Derived.Shelf.SlSortCmp.WholeK
import Derived.Shelf.SlSortCmp.NoneTotal
import Derived.Shelf.SlGeneric
import Derived.Ground.SlsfProg
import Derived.Ground.NamesProg
import Derived.Test.YtbfonnoebbjenaaGreatDoorProg
import Derived.Test.YtbfonnoebbjenaaGreatDoorAxTj
namespace Go.Proofs.Tryz
open Go Go.Am Go.RowKit Go.Op
set_option maxRecDepth 100000

end Go.Proofs.Tryz

namespace Go.Proofs.Tryz
open Go Go.Am Go.RowKit Go.Op
set_option maxRecDepth 100000

section
variable {α : Type} {enc : α → List Value} {m : Nat}
theorem lenG (hm : ∀ x, (enc x).length = m) (l : List α) : ∀ y ∈ l.map enc, y.length = m := fun y hy => by
  obtain ⟨t, -, rfl⟩ := List.mem_map.1 hy
  exact hm t
theorem flatR_lenG {m : Nat} : ∀ {l : List (List Value)}, (∀ y ∈ l, y.length = m) → (flatR l).length = l.length * m
  | [], _ => by simp [flatR]
  | y :: l, h => by
    have ih := flatR_lenG (l := l) fun z hz => h z (by simp [hz])
    have hy := h y (by simp)
    show (y ++ flatR l).length = _
    rw [List.length_append, ih, hy, List.length_cons, Nat.add_mul]; omega
variable [Inhabited α]
/-- The flat row, place by place. -/
theorem flat_atG (hm : ∀ x, (enc x).length = m) (l : List α) {j : Nat} (hj : j < l.length * m) : (flatR (l.map enc))[j]? = some (Go.Sort.flatK enc m l.toArray)[j]! := by
  have h0 : 0 < m := by
    rcases Nat.eq_zero_or_pos m with rfl | h
    · simp at hj
    · exact h
  have h1 : j / m < l.length := Nat.div_lt_of_lt_mul (by rwa [Nat.mul_comm])
  have h2 : j % m < m := Nat.mod_lt _ h0
  rw [Go.Sort.get_flatK _ _ _ _ (by simpa using hj)]
  have hx : (l.map enc)[j / m]? = some (enc l[j / m]) := by rw [List.getElem?_map, List.getElem?_eq_getElem h1]; rfl
  have hl : j % m < (enc l[j / m]).length := by rw [hm]; exact h2
  have hu : (enc l[j / m])[j % m]? = some (enc l[j / m])[j % m] := List.getElem?_eq_getElem hl
  have h3 := flatR_get (lenG hm l) hx hu
  have e : j / m * m + j % m = j := Nat.div_add_mod' j m
  rw [e] at h3
  rw [h3]
  have e2 : (l.toArray)[j / m]! = l[j / m] := by rw [getElem!_pos l.toArray (j / m) (by simpa using h1)]; simp
  rw [e2, getElem!_pos (enc l[j / m]) (j % m) hl]
theorem holdsG (hm : ∀ x, (enc x).length = m) {W : World} {base e g cap : Nat} {l : List α} (h : OwnRow W base e m (.slice (some ⟨g, 0, none⟩) l.length cap) (l.map enc)) : Go.Sort.HoldsK enc m W g 0 l.toArray := by
  intro j hj
  have hj' : j < l.length * m := by simpa using hj
  have h0 : 0 < m := by
    rcases Nat.eq_zero_or_pos m with rfl | h
    · simp at hj'
    · exact h
  have h1 : j / m < l.length := Nat.div_lt_of_lt_mul (by rwa [Nat.mul_comm])
  have h2 : j % m < m := Nat.mod_lt _ h0
  have hx : (l.map enc)[j / m]? = some (enc l[j / m]) := by rw [List.getElem?_map, List.getElem?_eq_getElem h1]; rfl
  have hl : j % m < (enc l[j / m]).length := by rw [hm]; exact h2
  have hu : (enc l[j / m])[j % m]? = some (enc l[j / m])[j % m] := List.getElem?_eq_getElem hl
  have hc := OwnRow.cell h hx hu
  have h3 := flatR_get (lenG hm l) hx hu
  have e : j / m * m + j % m = j := Nat.div_add_mod' j m
  rw [e] at hc h3
  rw [flat_atG hm l hj'] at h3
  rw [Nat.zero_add, Option.some.inj h3]
  exact hc
theorem put_blockG {W : World} {g n e : Nat} {cur : Array Value} {l : List α} {os : Array Obj} (h : W.heap[g]? = some (.cells cur e (0, 0))) :
    (Go.Sort.grow (Go.Sort.putRowK enc m (Go.Sort.ahead W n) g 0 l.toArray) os).heap[g]? = some (.cells (Go.Sort.putCells id 0 (Go.Sort.flatK enc m l.toArray) cur) e (0, 0)) := by
  have hlt := (Array.getElem?_eq_some_iff.1 h).1
  show ((W.heap.modify g _) ++ os)[g]? = _
  rw [Array.getElem?_append_left (by simpa using hlt), Array.getElem?_modify, h]
  simp [Go.Sort.onCells]
theorem put_otherG {W : World} {g n i : Nat} {d : Array α} {os : Array Obj} (hi : i < W.heap.size) (hne : i ≠ g) :
    (Go.Sort.grow (Go.Sort.putRowK enc m (Go.Sort.ahead W n) g 0 d) os).heap[i]? = W.heap[i]? := by
  show ((W.heap.modify g _) ++ os)[i]? = _
  rw [Array.getElem?_append_left (by simpa using hi), Array.getElem?_modify, if_neg (fun e => hne e.symm)]
theorem putG (hm : ∀ x, (enc x).length = m) {W : World} {base e g cap n : Nat} {l l' : List α} {os : Array Obj} (h : OwnRow W base e m (.slice (some ⟨g, 0, none⟩) l.length cap) (l.map enc)) (hl : l'.length = l.length) :
    OwnRow (Go.Sort.grow (Go.Sort.putRowK enc m (Go.Sort.ahead W n) g 0 l'.toArray) os) base e m (.slice (some ⟨g, 0, none⟩) l.length cap) (l'.map enc) := by
  rcases h.1.2 with ⟨e0, h0⟩ | ⟨g', cap', cur, e0, h1, h2, h3, h4, h5, h6⟩
  · cases e0
  · simp only [Value.slice.injEq, Option.some.injEq, Addr.mk.injEq, and_true] at e0
    obtain ⟨rfl, -, rfl⟩ := e0
    rw [List.length_map] at h3
    have hlen := flatR_lenG (lenG hm l')
    rw [List.length_map] at hlen
    refine ⟨⟨by rw [List.length_map]; exact hlen, .inr ⟨g, cap, Go.Sort.putCells id 0 (Go.Sort.flatK enc m l'.toArray) cur, by rw [List.length_map, hl], h1, put_blockG h2, by rw [List.length_map, hl]; exact h3, h4, by simpa [Go.Sort.putCells] using h5, ?_⟩⟩, lenG hm l'⟩
    rw [List.length_map]
    apply List.ext_getElem?
    intro k
    have hcs : l'.length * m ≤ cur.size := by rw [h5, hl]; exact Nat.mul_le_mul_right _ h3
    by_cases hk : k < l'.length * m
    · rw [flat_atG hm l' hk, List.getElem?_take_of_lt hk, Array.getElem?_toList]
      have hkc : k < cur.size := Nat.lt_of_lt_of_le hk hcs
      simp only [Go.Sort.putCells, Array.getElem?_mapIdx, Array.getElem?_eq_getElem hkc, Option.map_some]
      rw [if_pos ⟨Nat.zero_le _, by simpa using hk⟩]
      simp
    · have hz : (flatR (l'.map enc))[k]? = none := List.getElem?_eq_none (by rw [hlen]; omega)
      rw [hz, List.getElem?_eq_none (by rw [List.length_take]; omega)]
theorem keepsG {W : World} {base g n : Nat} {d : Array α} {os : Array Obj} (hg : base ≤ g) : Keeps base W (Go.Sort.grow (Go.Sort.putRowK enc m (Go.Sort.ahead W n) g 0 d) os) := fun w0 h0 hb => by
  refine ⟨h0.os, h0.tape, h0.output, ?_, fun i hi => ?_⟩
  · have := h0.size
    rw [Go.Sort.size_grow]
    show w0.heap.size ≤ (Go.Sort.putRow id (Go.Sort.ahead W n) g 0 _).heap.size + _
    rw [Go.Sort.size_putRow]
    exact Nat.le_trans this (Nat.le_add_right _ _)
  · rw [put_otherG (Nat.lt_of_lt_of_le hi h0.size) (by omega)]
    exact h0.block i hi
theorem sorted_listG {cf : α → α → Int} {d' : Array α} {l : List α} (hp : Go.Sort.PermIn 0 l.toArray.size l.toArray d') (hs : Go.Sort.SortedIn (ltOf cf) 0 l.toArray.size d') : d'.toList.Perm l ∧ (d'.toList.Pairwise fun a b => ltOf cf b a = false) ∧ d'.toList.length = l.length := by
  obtain ⟨h1, -, h3⟩ := hp
  have e0 : d'.size = l.length := by simpa using h1
  have e1 : d'.extract 0 l.toArray.size = d' := by rw [← h1]; simp
  have e2 : l.toArray.extract 0 l.toArray.size = l.toArray := by simp
  rw [e1, e2] at h3
  have hpm : d'.toList.Perm l := h3
  refine ⟨hpm, ?_, by simpa using e0⟩
  rw [List.pairwise_iff_getElem]
  intro i j hi hj hij
  have hi' : i < d'.size := by simpa using hi
  have hj' : j < d'.size := by simpa using hj
  have := hs i j (Nat.zero_le _) hij (by rw [← h1]; exact hj')
  rw [getElem!_pos d' i hi', getElem!_pos d' j hj'] at this
  simp only [Array.getElem_toList]
  exact this
end
end Go.Proofs.Tryz

namespace Go.Proofs
open Go.Shelf
def Tryz.sortSSL_ren : Go.Shelf.Ren := ⟨fun | 6 => 115 | 15 => 149 | 14 => 155 | 28 => 188 | 29 => 189 | 20 => 190 | 21 => 191 | 22 => 192 | 23 => 193 | 24 => 194 | 25 => 195 | 26 => 196 | 27 => 197 | 46 => 213 | 47 => 209 | 48 => 210 | 49 => 214 | 50 => 215 | 57 => 234 | n => n, fun | 22 => 86 | 24 => 92 | 25 => 181 | 3 => 3 | 39 => 224 | 0 => 0 | 53 => 264 | 55 => 266 | 4 => 4 | 46 => 257 | 45 => 256 | 50 => 261 | 5 => 5 | 9 => 9 | 66 => 278 | 70 => 282 | 76 => 297 | 77 => 298 | n => n, fun | n => n⟩
theorem Tryz.sortSSL : Go.Proofs.SlLaysF0.n6 Tryz.prog Tryz.sortSSL_ren := {
  mixed := by kernel_rfl
  f6 := ⟨Tryz.f115.name, by decide, Tryz.func115.trans (congrArg some (by kernel_rfl))⟩
  f14 := ⟨Tryz.f155.name, by decide, Tryz.func155.trans (congrArg some (by kernel_rfl))⟩
  f15 := Tryz.func149.trans (congrArg some (by kernel_rfl))
  f20 := ⟨Tryz.f190.name, by decide, Tryz.func190.trans (congrArg some (by kernel_rfl))⟩
  f21 := ⟨Tryz.f191.name, by decide, Tryz.func191.trans (congrArg some (by kernel_rfl))⟩
  f22 := ⟨Tryz.f192.name, by decide, Tryz.func192.trans (congrArg some (by kernel_rfl))⟩
  f23 := ⟨Tryz.f193.name, by decide, Tryz.func193.trans (congrArg some (by kernel_rfl))⟩
  f24 := ⟨Tryz.f194.name, by decide, Tryz.func194.trans (congrArg some (by kernel_rfl))⟩
  f25 := ⟨Tryz.f195.name, by decide, Tryz.func195.trans (congrArg some (by kernel_rfl))⟩
  f26 := ⟨Tryz.f196.name, by decide, Tryz.func196.trans (congrArg some (by kernel_rfl))⟩
  f27 := ⟨Tryz.f197.name, by decide, Tryz.func197.trans (congrArg some (by kernel_rfl))⟩
  f28 := Tryz.func188.trans (congrArg some (by kernel_rfl))
  f29 := Tryz.func189.trans (congrArg some (by kernel_rfl))
  f46 := ⟨Tryz.f213.name, by decide, Tryz.func213.trans (congrArg some (by kernel_rfl))⟩
  f47 := Tryz.func209.trans (congrArg some (by kernel_rfl))
  f48 := Tryz.func210.trans (congrArg some (by kernel_rfl))
  f49 := ⟨Tryz.f214.name, by decide, Tryz.func214.trans (congrArg some (by kernel_rfl))⟩
  f50 := ⟨Tryz.f215.name, by decide, Tryz.func215.trans (congrArg some (by kernel_rfl))⟩
  f57 := ⟨Tryz.f234.name, by decide, Tryz.func234.trans (congrArg some (by kernel_rfl))⟩
  t0 := Tryz.underlying0
  a0 := Tryz.isAgg0
  z0 := Tryz.sizeOf0
  v0 := Tryz.zeroValue0
  t3 := Tryz.underlying3
  a3 := Tryz.isAgg3
  z3 := Tryz.sizeOf3
  v3 := Tryz.zeroValue3
  t4 := Tryz.underlying4
  a4 := Tryz.isAgg4
  z4 := Tryz.sizeOf4
  v4 := Tryz.zeroValue4
  t5 := Tryz.underlying5
  a5 := Tryz.isAgg5
  z5 := Tryz.sizeOf5
  v5 := Tryz.zeroValue5
  t9 := Tryz.underlying9
  a9 := Tryz.isAgg9
  z9 := Tryz.sizeOf9
  v9 := Tryz.zeroValue9
  t22 := Tryz.underlying86
  a22 := Tryz.isAgg86
  z22 := Tryz.sizeOf86
  v22 := Tryz.zeroValue86
  t25 := Tryz.underlying181
  a25 := Tryz.isAgg181
  z25 := Tryz.sizeOf181
  v25 := Tryz.zeroValue181
  t39 := Tryz.underlying224
  a39 := Tryz.isAgg224
  z39 := Tryz.sizeOf224
  v39 := Tryz.zeroValue224
  t45 := Tryz.underlying256
  a45 := Tryz.isAgg256
  z45 := Tryz.sizeOf256
  v45 := Tryz.zeroValue256
  t46 := Tryz.underlying257
  a46 := Tryz.isAgg257
  z46 := Tryz.sizeOf257
  v46 := Tryz.zeroValue257
  t50 := Tryz.underlying261
  a50 := Tryz.isAgg261
  z50 := Tryz.sizeOf261
  v50 := Tryz.zeroValue261
  t53 := Tryz.underlying264
  a53 := Tryz.isAgg264
  z53 := Tryz.sizeOf264
  v53 := Tryz.zeroValue264
  t55 := Tryz.underlying266
  a55 := Tryz.isAgg266
  z55 := Tryz.sizeOf266
  v55 := Tryz.zeroValue266
  t66 := Tryz.underlying278
  a66 := Tryz.isAgg278
  z66 := Tryz.sizeOf278
  v66 := Tryz.zeroValue278
  t70 := Tryz.underlying282
  a70 := Tryz.isAgg282
  z70 := Tryz.sizeOf282
  v70 := Tryz.zeroValue282
  t76 := Tryz.underlying297
  a76 := Tryz.isAgg297
  z76 := Tryz.sizeOf297
  v76 := Tryz.zeroValue297
  t77 := Tryz.underlying298
  a77 := Tryz.isAgg298
  z77 := Tryz.sizeOf298
  v77 := Tryz.zeroValue298 }
end Go.Proofs

namespace Go.Proofs.Tryz
open Go Go.Am Go.RowKit Go.Op Go.Maps Go.WideMaps
set_option maxRecDepth 100000

theorem invK9 : ∀ key kl, keyOf prog 9 key = some kl → ∃ x : List UInt8, key = .string (bA x) := fun key kl h => by
  cases key <;> simp [keyOf, underlying9, mapKey] at h
  rename_i s
  exact ⟨s.data.toList, by rw [bA_data]⟩
theorem key9 {x : List UInt8} {kl : Lit} (h : keyOf prog 9 (.string (bA x)) = some kl) : kl = .string x := by
  simp [keyOf, underlying9, mapKey] at h
  exact h.2.symm
/-- What has been collected so far. -/
structure GoodL (L : List Tot) (left : Lit → Bool) (Lo : List Tot) : Prop where
  nodup : Lo.Pairwise fun a b => a.p ≠ b.p
  mem : ∀ t, t ∈ Lo ↔ (t ∈ L ∧ nzT t = true ∧ left (.string t.p) = false)
  len : Lo.length ≤ L.length
theorem same_lit (a b : List UInt8) : (Lit.string a).sameKey (.string b) = decide (a = b) := by
  by_cases h : a = b
  · subst h; rw [decide_eq_true rfl]; exact WideAt.sameKey_self (by first | exact trivial | simp [WideAt.IsKeyLit])
  · rw [decide_eq_false h]; exact sameKey_ne (fun e => h (by injection e))
end Go.Proofs.Tryz
