/- On the play seat's program: what the rows' condition gives; ratios opened. -/
import Derived.Test.YtfnpmcbilejbbaaGreatDoorRows
import Derived.ProofKit
import Derived.LaidMore
import Derived.OpenShut
import Derived.Carry
import Derived.Lay
import Derived.Stop.Joined
import Derived.Test.YtfnpmcbilejbbaaGreatDoorAqZa
namespace Go.Proofs.Tryz
open Go Go.Am Go.ChangeShapes Go.WideShapes Go.ChangeAt Go.RowKit
set_option maxRecDepth 100000

theorem own : ownKnob prog.godebug = none := by kernel_rfl
theorem laidOut : laidOutB prog = true := by kernel_rfl
theorem gSafe : prog.globalNamed "dugout/play.safe" = some 0 := by kernel_rfl
theorem gOuts : prog.globalNamed "dugout/play.outs" = some 1 := by kernel_rfl
theorem tSafe : (prog.globals[0]?).map (·.type) = some 145 := by kernel_rfl
theorem tOuts : (prog.globals[1]?).map (·.type) = some 145 := by kernel_rfl
theorem u145 : prog.underlying 145 = some (.array 7 120) := by kernel_rfl
def way120 : Array Field := #[{ name := "letter", type := 5, offset := 0, embedded := false, tag := "", pkgPath := "dugout/play", byteOffset := 0 }, { name := "batter", type := 3, offset := 1, embedded := false, tag := "", pkgPath := "dugout/play", byteOffset := 8 },
  { name := "least", type := 3, offset := 2, embedded := false, tag := "", pkgPath := "dugout/play", byteOffset := 16 }, { name := "most", type := 3, offset := 3, embedded := false, tag := "", pkgPath := "dugout/play", byteOffset := 24 }]
theorem u120 : prog.underlying 120 = some (.struct way120) := by kernel_rfl
theorem u5 : prog.underlying 5 = some (.int .u8) := by kernel_rfl
theorem u3 : prog.underlying 3 = some (.int .i64) := by kernel_rfl
theorem c5 : prog.cellsOf 5 = 1 := by kernel_rfl
theorem c3 : prog.cellsOf 3 = 1 := by kernel_rfl
theorem c120 : prog.cellsOf 120 = 4 := by kernel_rfl
theorem ct23 : prog.cellTypes prog.depth 23 = some [3, 3] := by kernel_rfl
theorem c23 : prog.cellsOf 23 = 2 := by kernel_rfl

section
variable {H : Type} {enc : TypeId × Value → H} {w : World} {base : Nat} {spare : Nat → Bool} {held : Bool}

def wayD (q : Int × Int × Int × Int) : DataW H := .agg [.lit (.int .u8 q.1), .lit (.int .i64 q.2.1), .lit (.int .i64 q.2.2.1), .lit (.int .i64 q.2.2.2)]
def wayL (q : Int × Int × Int × Int) : List Value := [.int .u8 q.1, .int .i64 q.2.1, .int .i64 q.2.2.1, .int .i64 q.2.2.2]

theorem way_cells {fuel : Nat} {cs : List Value} {x : DataW H × List MemPlace} (h : DataW.trod enc prog w base spare held fuel 120 cs = some x) {q : Int × Int × Int × Int} (hx : x.1 = wayD q) : cs = wayL q := by
  obtain ⟨ys, n, _, hxe, hl, hn, hf⟩ := DataW.trod_struct u120 h
  rw [c120] at hl
  rw [hxe] at hx
  simp only [wayD, DataW.agg.injEq] at hx
  match cs, hl with
  | [v0, v1, v2, v3], _ =>
    have k0 : DataW.trod enc prog w base spare held n 5 (([v0, v1, v2, v3].drop 0).take (prog.cellsOf 5)) = ys[0]? := hf 0 _ rfl
    have k1 : DataW.trod enc prog w base spare held n 3 (([v0, v1, v2, v3].drop 1).take (prog.cellsOf 3)) = ys[1]? := hf 1 _ rfl
    have k2 : DataW.trod enc prog w base spare held n 3 (([v0, v1, v2, v3].drop 2).take (prog.cellsOf 3)) = ys[2]? := hf 2 _ rfl
    have k3 : DataW.trod enc prog w base spare held n 3 (([v0, v1, v2, v3].drop 3).take (prog.cellsOf 3)) = ys[3]? := hf 3 _ rfl
    rw [c5] at k0
    rw [c3] at k1 k2 k3
    match ys, hn with
    | [y0, y1, y2, y3], _ =>
      obtain ⟨n0, a0, b0, _⟩ := DataW.trod_int u5 k0
      obtain ⟨n1, a1, b1, _⟩ := DataW.trod_int u3 k1
      obtain ⟨n2, a2, b2, _⟩ := DataW.trod_int u3 k2
      obtain ⟨n3, a3, b3, _⟩ := DataW.trod_int u3 k3
      subst b0 b1 b2 b3
      simp only [List.map_cons, List.map_nil, List.cons.injEq, DataW.lit.injEq, Lit.int.injEq, true_and, and_true] at hx
      obtain ⟨h0, h1, h2, h3⟩ := hx
      simp at a0 a1 a2 a3
      rw [a0, a1, a2, a3, h0, h1, h2, h3]; rfl

theorem ways_cells {cs : Array Value} {fuel : Nat} {x : DataW H × List MemPlace} (h : DataW.trod enc prog w base spare held fuel 145 cs.toList = some x) {D : List (Int × Int × Int × Int)} (hD : D.length = 7) (hx : x.1 = .agg (D.map wayD)) :
    ∀ i j q, D[i]? = some q → j < 4 → cs[i * 4 + j]? = (wayL q)[j]? := by
  obtain ⟨xs, m, _, hxe, hl, hn, hel⟩ := DataW.trod_array u145 h
  rw [hxe] at hx
  simp only [DataW.agg.injEq] at hx
  intro i j q hq hj
  have hi : i < 7 := by rw [← hD]; exact (List.getElem?_eq_some_iff.1 hq).1
  have he := hel i hi
  rw [c120] at he
  have hxi : (xs.map (·.1))[i]? = some (wayD q) := by rw [hx, List.getElem?_map, hq]; rfl
  rw [List.getElem?_map] at hxi
  cases hy : xs[i]? with
  | none => rw [hy] at hxi; cases hxi
  | some y =>
    rw [hy] at he hxi
    have := way_cells he (Option.some.inj hxi)
    rw [← this, List.getElem?_take, if_pos hj, List.getElem?_drop, Array.getElem?_toList]
end

def safeD : List (Int × Int × Int × Int) := [(98, 4, 1, 4), (97, 4, 1, 4), (115, -1, 1, 4), (112, 4, 1, 4), (107, -1, 1, 4), (116, 4, 1, 4), (111, 4, 1, 4)]
def outsD : List (Int × Int × Int × Int) := [(102, 1, 1, 1), (103, 4, 0, 4), (99, 1, 0, -1), (100, -1, 0, 0), (107, 1, 0, -1), (110, 1, 1, 4), (121, 1, 0, -1)]
theorem safe_at : ∀ i j, i < 7 → j < 4 → ∃ q, safeD[i]? = some q ∧ safeT[i * 4 + j]? = (wayL q)[j]? := by
  intro i j hi hj
  have hi' : i = 0 ∨ i = 1 ∨ i = 2 ∨ i = 3 ∨ i = 4 ∨ i = 5 ∨ i = 6 := by omega
  have hj' : j = 0 ∨ j = 1 ∨ j = 2 ∨ j = 3 := by omega
  rcases hi' with rfl | rfl | rfl | rfl | rfl | rfl | rfl <;> rcases hj' with rfl | rfl | rfl | rfl <;> exact ⟨_, rfl, rfl⟩
theorem outs_at : ∀ i j, i < 7 → j < 4 → ∃ q, outsD[i]? = some q ∧ outsT[i * 4 + j]? = (wayL q)[j]? := by
  intro i j hi hj
  have hi' : i = 0 ∨ i = 1 ∨ i = 2 ∨ i = 3 ∨ i = 4 ∨ i = 5 ∨ i = 6 := by omega
  have hj' : j = 0 ∨ j = 1 ∨ j = 2 ∨ j = 3 := by omega
  rcases hi' with rfl | rfl | rfl | rfl | rfl | rfl | rfl <;> rcases hj' with rfl | rfl | rfl | rfl <;> exact ⟨_, rfl, rfl⟩

/-- The heap's first lines: what the rows' condition lays. -/
theorem of_laid {W : World} (h : laidMetH prog YtfnpmcbilejbbaaGreatDoor.Rows.playRatesRow.laid W) : Laid W := by
  rw [MakeChecks.laidMetH_plain _ _ _ (by kernel_rfl)] at h
  obtain ⟨ps, ⟨g0, t0', cs0, f0, p0, q0, hg0, ht0, hv0, hd0, ⟨g1, t1', cs1, f1, p1, q1, hg1, ht1, hv1, hd1, ⟨g2, t2', cs2, f2, p2, q2, hg2, ht2, hv2, hd2, _, _⟩, _⟩, _⟩, _, _⟩ := h
  obtain rfl := Option.some.inj (gSafe.symm.trans hg1)
  obtain rfl := Option.some.inj (tSafe.symm.trans ht1)
  obtain rfl := Option.some.inj (gOuts.symm.trans hg2)
  obtain rfl := Option.some.inj (tOuts.symm.trans ht2)
  have k1 := ways_cells (D := safeD) hd1 rfl rfl
  have k2 := ways_cells (D := outsD) hd2 rfl rfl
  intro b o v hv
  unfold baseOf at hv
  cases hb : Nat.beq b 0 with
  | true =>
    rw [hb] at hv
    have := Nat.eq_of_beq_eq_true hb; subst this
    simp only [cond_true] at hv
    have hlt : o < 28 := (List.getElem?_eq_some_iff.1 hv).1
    obtain ⟨q, e1, e2⟩ := safe_at (o / 4) (o % 4) (by omega) (by omega)
    have eo : o / 4 * 4 + o % 4 = o := by omega
    rw [eo] at e2
    rw [World.var?_cell hg1 hv1 o]
    have := k1 (o / 4) (o % 4) q e1 (by omega)
    rw [eo] at this
    rw [this, ← e2]; exact hv
  | false =>
    rw [hb] at hv
    simp only [cond_false] at hv
    cases hb1 : Nat.beq b 1 with
    | false => rw [hb1] at hv; cases hv
    | true =>
      rw [hb1] at hv
      have := Nat.eq_of_beq_eq_true hb1; subst this
      simp only [cond_true] at hv
      have hlt : o < 28 := (List.getElem?_eq_some_iff.1 hv).1
      obtain ⟨q, e1, e2⟩ := outs_at (o / 4) (o % 4) (by omega) (by omega)
      have eo : o / 4 * 4 + o % 4 = o := by omega
      rw [eo] at e2
      rw [World.var?_cell hg2 hv2 o]
      have := k2 (o / 4) (o % 4) q e1 (by omega)
      rw [eo] at this
      rw [this, ← e2]; exact hv

theorem okRow_int {W : World} {r : Reach} {b0 : Nat} {v : Value} (h : Cell.okWide prog W r b0 3 v) : ∃ n, v = .int .i64 n := by
  simp only [Cell.okWide, u3] at h
  cases v <;> simp_all [Cell.ok]

theorem open_ratio {W : World} {r : Reach} {b0 : Nat} {v : Value} (h : Value.okWide prog W r b0 23 v) : ∃ a b, v = .agg #[.int .i64 a, .int .i64 b] := by
  simp only [Value.okWide, underlying23] at h
  obtain ⟨⟨cs⟩, rfl, hs, ts, hts, _, hall⟩ := h
  rw [ct23] at hts; cases hts
  rw [c23] at hs
  match cs, hs with
  | [x0, x1], _ =>
    obtain ⟨v0, e0, k0⟩ := hall 0 x0 rfl
    obtain ⟨v1, e1, k1⟩ := hall 1 x1 rfl
    cases e0; cases e1
    obtain ⟨a, rfl⟩ := okRow_int k0
    obtain ⟨b, rfl⟩ := okRow_int k1
    exact ⟨a, b, rfl⟩

theorem Kept.below {w w' : World} (h : Kept w w') : Below w.heap.size w w' := ⟨h.os, h.tape, h.output, h.size, h.block⟩

theorem CallRet.calls {f : FuncId} {F : Func} {c : Code} (hf : cx.fn f = some F) (hb : F.body = some c) {args : Array Value} {w : World} {Ψ : Value → World → Prop} (h : CallRet prog f args w Ψ) : Calls prog f args w fun e w' => ∃ v, e = .returned v ∧ Ψ v w' := by
  rcases h with ⟨v, w', h1, _⟩ | ⟨_, h2⟩
  · rw [callFunc_enter cxOk hf hb args w] at h1; cases h1
  · exact h2

theorem laid_shaped (os : Os) : (World.laidAll prog os YtfnpmcbilejbbaaGreatDoor.Rows.playRatesRow.laid).Shaped prog := World.shaped_of_ZipB (by kernel_rfl) (by kernel_rfl)
theorem laid_met (os : Os) (args : Array Value) : laidMetH prog YtfnpmcbilejbbaaGreatDoor.Rows.playRatesRow.laid ((World.laidAll prog os YtfnpmcbilejbbaaGreatDoor.Rows.playRatesRow.laid).forCall (fun _ _ => 0) ⟨#[], args, []⟩).memory := by
  rw [MakeChecks.laidMetH_plain _ _ _ (by kernel_rfl)]; exact laidMet_laidAll _ (by kernel_rfl) (by kernel_rfl)
end Go.Proofs.Tryz
