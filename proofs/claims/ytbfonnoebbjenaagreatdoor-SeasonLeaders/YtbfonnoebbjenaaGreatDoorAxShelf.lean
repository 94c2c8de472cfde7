/- DERIVED: THE SHELF's CONTRACTS AT THIS DUMP, IN PLAIN WORDS (tools/lay-plain.mjs out of 'AxShelf.lean', which tools/lay-shelf.mjs wrote): THE SAME DECLARATIONS UNDER THE SAME NAMES: 'import', 'namespace', 'open', 'def', 'theorem' AND NOTHING ELSE: no command of the shelf's: FOR A HAND-IN. Each laying: the table of numbers ('.._ren') and one theorem, a field a fact of the dump's own or the kernel's comparison; each contract: ONE APPLICATION. The sort of a row of totals by player: the library's contract at this program's instance, and what it leaves of the row. DERIVED: THE SHELF's CONTRACTS AT THIS DUMP, IN PLAIN WORDS (tools/lay-plain.mjs out of 'AxShelg.lean', which tools/lay-shelf.mjs wrote): THE SAME DECLARATIONS UNDER THE SAME NAMES: 'import', 'namespace', 'open', 'def', 'theorem' AND NOTHING ELSE: no command of the shelf's: FOR A HAND-IN. Each laying: the table of numbers ('.._ren') and one theorem, a field a fact of the dump's own or the kernel's comparison; each contract: ONE APPLICATION. Rows of totals joined (slices.Grow, slices.Concat): by the kit's walk. -/
import Derived.Shelf.SlGeneric
import Derived.Shelf.SlSortCmp.WholeK
import Derived.Ground.SlsfProg
import Derived.Ground.NamesProg
import Derived.Test.YtbfonnoebbjenaaGreatDoorProg
import Derived.Test.YtbfonnoebbjenaaGreatDoorAxTg
import Derived.Shelf.SlSortCmp.NoneTotal
import Derived.Shelf.Spec.SlicesGrow
import Derived.Ground.Names7Prog
namespace Go.Proofs
open Go.Shelf
def Tryz.sortTSL_ren : Go.Shelf.Ren := ⟨fun | 6 => 102 | 15 => 149 | 14 => 148 | 28 => 188 | 29 => 189 | 20 => 180 | 21 => 181 | 22 => 182 | 23 => 183 | 24 => 184 | 25 => 185 | 26 => 186 | 27 => 187 | 46 => 208 | 47 => 209 | 48 => 210 | 49 => 211 | 50 => 212 | 57 => 233 | n => n, fun | 22 => 25 | 24 => 66 | 25 => 166 | 3 => 3 | 39 => 224 | 0 => 0 | 53 => 264 | 55 => 266 | 4 => 4 | 46 => 257 | 45 => 256 | 50 => 261 | 5 => 5 | 9 => 9 | 66 => 278 | 70 => 282 | 76 => 297 | 77 => 298 | n => n, fun | n => n⟩
theorem Tryz.sortTSL : Go.Proofs.SlLaysF0.n6 Tryz.prog Tryz.sortTSL_ren := {
  mixed := by kernel_rfl
  f6 := ⟨Tryz.f102.name, by decide, Tryz.func102.trans (congrArg some (by kernel_rfl))⟩
  f14 := ⟨Tryz.f148.name, by decide, Tryz.func148.trans (congrArg some (by kernel_rfl))⟩
  f15 := Tryz.func149.trans (congrArg some (by kernel_rfl))
  f20 := ⟨Tryz.f180.name, by decide, Tryz.func180.trans (congrArg some (by kernel_rfl))⟩
  f21 := ⟨Tryz.f181.name, by decide, Tryz.func181.trans (congrArg some (by kernel_rfl))⟩
  f22 := ⟨Tryz.f182.name, by decide, Tryz.func182.trans (congrArg some (by kernel_rfl))⟩
  f23 := ⟨Tryz.f183.name, by decide, Tryz.func183.trans (congrArg some (by kernel_rfl))⟩
  f24 := ⟨Tryz.f184.name, by decide, Tryz.func184.trans (congrArg some (by kernel_rfl))⟩
  f25 := ⟨Tryz.f185.name, by decide, Tryz.func185.trans (congrArg some (by kernel_rfl))⟩
  f26 := ⟨Tryz.f186.name, by decide, Tryz.func186.trans (congrArg some (by kernel_rfl))⟩
  f27 := ⟨Tryz.f187.name, by decide, Tryz.func187.trans (congrArg some (by kernel_rfl))⟩
  f28 := Tryz.func188.trans (congrArg some (by kernel_rfl))
  f29 := Tryz.func189.trans (congrArg some (by kernel_rfl))
  f46 := ⟨Tryz.f208.name, by decide, Tryz.func208.trans (congrArg some (by kernel_rfl))⟩
  f47 := Tryz.func209.trans (congrArg some (by kernel_rfl))
  f48 := Tryz.func210.trans (congrArg some (by kernel_rfl))
  f49 := ⟨Tryz.f211.name, by decide, Tryz.func211.trans (congrArg some (by kernel_rfl))⟩
  f50 := ⟨Tryz.f212.name, by decide, Tryz.func212.trans (congrArg some (by kernel_rfl))⟩
  f57 := ⟨Tryz.f233.name, by decide, Tryz.func233.trans (congrArg some (by kernel_rfl))⟩
  t0 := Tryz.underlying0
  a0 := Tryz.isAgg0
  z0 := Tryz.sizeOf0
  v0 := Tryz.zeroValue0
  t3 := Tryz.underlying3
  a3 := Tryz.isAgg3
  z3 := Tryz.sizeOf3
  v3 := Tryz.zeroValue3
  t4 := Tryz.underlying4
  a4 := Tryz.isAgg4
  z4 := Tryz.sizeOf4
  v4 := Tryz.zeroValue4
  t5 := Tryz.underlying5
  a5 := Tryz.isAgg5
  z5 := Tryz.sizeOf5
  v5 := Tryz.zeroValue5
  t9 := Tryz.underlying9
  a9 := Tryz.isAgg9
  z9 := Tryz.sizeOf9
  v9 := Tryz.zeroValue9
  t22 := Tryz.underlying25
  a22 := Tryz.isAgg25
  z22 := Tryz.sizeOf25
  v22 := Tryz.zeroValue25
  t25 := Tryz.underlying166
  a25 := Tryz.isAgg166
  z25 := Tryz.sizeOf166
  v25 := Tryz.zeroValue166
  t39 := Tryz.underlying224
  a39 := Tryz.isAgg224
  z39 := Tryz.sizeOf224
  v39 := Tryz.zeroValue224
  t45 := Tryz.underlying256
  a45 := Tryz.isAgg256
  z45 := Tryz.sizeOf256
  v45 := Tryz.zeroValue256
  t46 := Tryz.underlying257
  a46 := Tryz.isAgg257
  z46 := Tryz.sizeOf257
  v46 := Tryz.zeroValue257
  t50 := Tryz.underlying261
  a50 := Tryz.isAgg261
  z50 := Tryz.sizeOf261
  v50 := Tryz.zeroValue261
  t53 := Tryz.underlying264
  a53 := Tryz.isAgg264
  z53 := Tryz.sizeOf264
  v53 := Tryz.zeroValue264
  t55 := Tryz.underlying266
  a55 := Tryz.isAgg266
  z55 := Tryz.sizeOf266
  v55 := Tryz.zeroValue266
  t66 := Tryz.underlying278
  a66 := Tryz.isAgg278
  z66 := Tryz.sizeOf278
  v66 := Tryz.zeroValue278
  t70 := Tryz.underlying282
  a70 := Tryz.isAgg282
  z70 := Tryz.sizeOf282
  v70 := Tryz.zeroValue282
  t76 := Tryz.underlying297
  a76 := Tryz.isAgg297
  z76 := Tryz.sizeOf297
  v76 := Tryz.zeroValue297
  t77 := Tryz.underlying298
  a77 := Tryz.isAgg298
  z77 := Tryz.sizeOf298
  v77 := Tryz.zeroValue298 }
end Go.Proofs

namespace Go.Proofs.Tryz
open Go Go.Am Go.RowKit Go.Op
set_option maxRecDepth 100000

instance : Inhabited Tot := ⟨tot0⟩
theorem flatR_length {m : Nat} : ∀ {l : List (List Value)}, (∀ y ∈ l, y.length = m) → (flatR l).length = l.length * m
  | [], _ => by simp [flatR]
  | y :: l, h => by
    have ih := flatR_length (l := l) fun z hz => h z (by simp [hz])
    have hy := h y (by simp)
    show (y ++ flatR l).length = _
    rw [List.length_append, ih, hy, List.length_cons, Nat.add_mul]; omega
theorem cells_len (l : List Tot) : ∀ y ∈ l.map Tot.cells, y.length = 14 := fun y hy => by
  obtain ⟨t, -, rfl⟩ := List.mem_map.1 hy
  exact Tot.len t
end Go.Proofs.Tryz

namespace Go.Proofs
open Go.Shelf
end Go.Proofs

namespace Go.Proofs.Tryz
open Go Go.Am Go.RowKit Go.Op
set_option maxRecDepth 100000

/-- The flat row of a handed list. -/
theorem row_flat {w : World} {l : List Tot} {b off c : Nat} (h : IsTots w (.slice (some ⟨b, off, none⟩) l.length c) l) : ∀ j u, (flatR (l.map Tot.cells))[j]? = some u → w.cell? ((⟨b, off, none⟩ : Addr).add j) = some u := fun j u hu => by
  have hlen := flatR_length (cells_len l)
  rw [List.length_map] at hlen
  have hj : j < l.length * 14 := by rw [← hlen]; exact (List.getElem?_eq_some_iff.1 hu).1
  have h1 : j / 14 < l.length := by omega
  have h2 : j % 14 < 14 := Nat.mod_lt _ (by decide)
  have hx : (l.map Tot.cells)[j / 14]? = some l[j / 14].cells := by rw [List.getElem?_map, List.getElem?_eq_getElem h1]; rfl
  have hl : j % 14 < l[j / 14].cells.length := by rw [Tot.len]; exact h2
  have hu2 : l[j / 14].cells[j % 14]? = some l[j / 14].cells[j % 14] := List.getElem?_eq_getElem hl
  have h3 := flatR_get (cells_len l) hx hu2
  have e : j / 14 * 14 + j % 14 = j := Nat.div_add_mod' j 14
  rw [e, hu] at h3
  obtain ⟨a, c', e1, -, hr⟩ := h
  simp only [Value.slice.injEq, true_and] at e1
  obtain ⟨rfl, rfl⟩ := e1
  obtain ⟨b', off', e2, hr⟩ := hr (by omega)
  simp only [Option.some.injEq, Addr.mk.injEq, and_true] at e2
  obtain ⟨rfl, rfl⟩ := e2
  have := hr (j / 14) h1 (j % 14) u (by show (l[j / 14]?.getD tot0).cells[j % 14]? = some u; rw [List.getElem?_eq_getElem h1, Option.some.inj h3]; exact hu2)
  rw [Nat.add_assoc, e] at this
  rw [add_adr]
  exact this
theorem cells_one (l : List Tot) : ∀ u ∈ flatR (l.map Tot.cells), u.oneCell' = true := fun u hu => by
  obtain ⟨x, hx, hux⟩ := List.mem_flatten.1 hu
  obtain ⟨t, -, rfl⟩ := List.mem_map.1 hx
  exact Tot.one t u hux
theorem flatR_append (l l2 : List (List Value)) : flatR (l ++ l2) = flatR l ++ flatR l2 := by simp [flatR]
/-- A handed list of totals appended onto a row of the call's own. -/
theorem run_appendTs {t e : TypeId} {iT : TypeInfo} {z : Value} (T : ElT t e 14 iT z 120) (ty : TypeId) {w : World} {base : Nat} {l l2 : List Tot} {v v2 : Value} (h : OwnTots w base e v l) (h2 : IsTots w v2 l2) (hn : l.length ≤ 100000) (hn2 : l2.length ≤ 100000) (hbase : base ≤ w.heap.size) :
    ∃ v' w', (Builtin.append_ #[t, t] ty #[v, v2]).run prog w = .ok v' w' ∧ OwnTots w' base e v' (l ++ l2) ∧ w.grownBy w' v.ownBlock := by
  obtain ⟨ad, c, rfl, hc⟩ := h2.slice
  have hlen2 := flatR_length (cells_len l2)
  rw [List.length_map] at hlen2
  have key : ∀ a : Addr, (∀ j u, (flatR (l2.map Tot.cells))[j]? = some u → w.cell? (a.add j) = some u) → ∃ v' w', (Builtin.append_ #[t, t] ty #[v, .slice (some a) l2.length c]).run prog w = .ok v' w' ∧ OwnTots w' base e v' (l ++ l2) ∧ w.grownBy w' v.ownBlock := fun a ha => by
    obtain ⟨v', w', hr, ho, hg, -⟩ := run_append_own (P := prog) w base t ty e iT _ 14 120 T.ht T.hi T.hz T.hs T.hb T.hc T.h0 v _ _ h.1 a l2.length c (flatR (l2.map Tot.cells)) hlen2 ha (cells_one l2) (by rw [List.length_map]; unfold maxLen; omega) (by rw [List.length_map]; omega) hbase
    refine ⟨v', w', hr, ⟨?_, cells_len _⟩, hg⟩
    have e2 : (l2.map Tot.cells).length = l2.length := List.length_map _
    rw [List.map_append, flatR_append, List.length_append, e2]
    exact ho
  cases ad with
  | some a =>
    refine key a ?_
    by_cases h0 : l2 = []
    · subst h0; intro j u hu; simp [flatR] at hu
    · obtain ⟨a', c', e1, -, hr⟩ := h2
      simp only [Value.slice.injEq, true_and] at e1
      obtain ⟨rfl, rfl⟩ := e1
      obtain ⟨b', off', e2, hr⟩ := hr (fun e => h0 (List.length_eq_zero_iff.1 e))
      simp only [Option.some.injEq] at e2
      subst e2
      exact row_flat ⟨_, _, rfl, hc, hr⟩
  | none =>
    have h0 : l2 = [] := by
      obtain ⟨a', c', e1, -, hr⟩ := h2
      by_cases h0 : l2.length = 0
      · exact List.length_eq_zero_iff.1 h0
      · obtain ⟨b', off', e2, hr⟩ := hr h0
        simp only [Value.slice.injEq] at e1
        rw [e2] at e1; cases e1.1
    subst h0
    refine ⟨v, w, ?_, by rw [List.append_nil]; exact h, ⟨rfl, rfl, rfl, Nat.le_refl _, fun _ _ _ => rfl⟩⟩
    rcases h.1.2 with ⟨rfl, e0⟩ | ⟨g, cap, cur, rfl, h1, h2, h3, h4, h5, h6⟩
    · simp [Builtin.append_, run_underlying T.ht, Go.sizeOf, typeInfo, T.hi, Builtin.lenOf, Builtin.firstCells]
    · have h7 : l.length ≤ cap := by rw [List.length_map] at h3; exact h3
      simp [Builtin.append_, run_underlying T.ht, Go.sizeOf, typeInfo, T.hi, Builtin.lenOf, Builtin.firstCells, storeCells, h7]

theorem wpList_appendTs {t e : TypeId} {iT : TypeInfo} {z : Value} (T : ElT t e 14 iT z 120) {ops : Array Oper} {rest : List Oper} {o : Oper} {a : Act} {w : World} {Q : Exit → Act → World → Prop} (hgd : o.guard = none) (s x : Operand)
    (ho : o.op = .call { callee := .builtin .append, args := #[s, x], argTypes := #[t, t] }) {base : Nat} {l l2 : List Tot} {v v2 : Value} (hs : a.eval s = v) (hx : a.eval x = v2)
    (h : OwnTots w base e v l) (h2 : IsTots w v2 l2) (hn : l.length ≤ 100000) (hn2 : l2.length ≤ 100000) (hbase : base ≤ w.heap.size)
    (hK : ∀ v' w', OwnTots w' base e v' (l ++ l2) → w.grownBy w' v.ownBlock → wpList prog ops Q rest (a.put o.dst v') w') : wpList prog ops Q (o :: rest) a w := by
  obtain ⟨v', w', hr, hA, hg⟩ := run_appendTs T o.type h h2 hn hn2 hbase
  refine wpList_plain hgd fun K' hK' => ?_
  unfold Oper.wp execOp
  simp only [ho, resolve, invoke, builtin, Sem.run_bind, Sem.run_pure, Result.andThen_ok, List.map_toArray, List.map_cons, List.map_nil, hs, hx, hr]
  exact hK' _ _ (hK _ _ hA hg)
theorem haltAp {ops : Array Oper} {rest : List Oper} {d : Option Tmp} {t : TypeId} {p : String} {f : Array Edge} {g : Option (Nat × Bool)} {s x : Operand} {ty : Array TypeId} {a : Act} {w : World} {Q : Exit → Act → World → Prop} (h : Halt (wpList prog ops Q (⟨d, Op.call { callee := .builtin .append, args := #[s, x], argTypes := ty }, t, p, f, g⟩ :: rest) a w)) : wpList prog ops Q (⟨d, Op.call { callee := .builtin .append, args := #[s, x], argTypes := ty }, t, p, f, g⟩ :: rest) a w := h

end Go.Proofs.Tryz
