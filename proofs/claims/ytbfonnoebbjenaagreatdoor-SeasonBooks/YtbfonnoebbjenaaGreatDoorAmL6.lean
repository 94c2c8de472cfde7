/- On the season seat's program: what the rows' condition gives; the handed arguments opened. -/
import Derived.Test.YtbfonnoebbjenaaGreatDoorRows
import Derived.ProofKit
import Derived.LaidMore
import Derived.OpenShut
import Derived.Carry
import Derived.Stop.Joined
import Derived.Test.YtbfonnoebbjenaaGreatDoorAmZa
namespace Go.Proofs.Tryz
open Go Go.Am Go.ChangeShapes Go.WideShapes Go.ChangeAt Go.RowKit
set_option maxRecDepth 100000

theorem own : ownKnob prog.godebug = none := by kernel_rfl
theorem laidOut : laidOutB prog = true := by kernel_rfl
theorem gK : prog.globalNamed "dugout/season.kinds" = some 0 := by kernel_rfl
theorem tK : (prog.globals[0]?).map (·.type) = some 192 := by kernel_rfl
theorem u192 : prog.underlying 192 = some (.array 12 9) := by kernel_rfl
theorem u9 : prog.underlying 9 = some .string := by kernel_rfl
theorem c9 : prog.cellsOf 9 = 1 := by kernel_rfl
theorem u70 : prog.underlying 70 = some (.slice 4) := by kernel_rfl
theorem u4 : prog.underlying 4 = some .bool := by kernel_rfl
theorem u3 : prog.underlying 3 = some (.int .i64) := by kernel_rfl
theorem c4 : prog.cellsOf 4 = 1 := by kernel_rfl

/-- The heap's first lines: what the rows' condition lays. -/
theorem of_laid {W : World} (h : laidMetH prog YtbfonnoebbjenaaGreatDoor.Rows.seasonStreaksRow.laid W) : Laid W := by
  rw [MakeChecks.laidMetH_plain _ _ _ (by kernel_rfl)] at h
  obtain ⟨ps, ⟨g0, t0, cs0, f0, p0, q0, hg0, ht0, hv0, hd0, ⟨g1, t1, cs1, f1, p1, q1, hg1, ht1, hv1, hd1, ⟨g2, t2, cs2, f2, p2, q2, hg2, ht2, hv2, hd2, ⟨g3, t3, cs3, f3, p3, q3, hg3, ht3, hv3, hd3, _, _⟩, _⟩, _⟩, _⟩, _, _⟩ := h
  obtain rfl := Option.some.inj (gK.symm.trans hg3)
  obtain rfl := Option.some.inj (tK.symm.trans ht3)
  have hcell := World.var?_cell hg3 hv3
  obtain ⟨xs, m, rfl, hx, hl, hn, hel⟩ := DataW.trod_array u192 hd3
  simp only [Prod.mk.injEq, YtbfonnoebbjenaaGreatDoor.Rows.laid_dugout_season_kinds, DataW.agg.injEq] at hx
  have key : ∀ (i : Nat) (b : List UInt8), i < 12 → (xs.map (·.1))[i]? = some (.lit (.string b)) → W.cell? ⟨0, i, none⟩ = some (str b) := by
    intro i b hi hb
    have h1 := hel i hi
    rw [c9, Nat.mul_one] at h1
    rw [List.getElem?_map] at hb
    cases hy : xs[i]? with
    | none => rw [hy] at hb; cases hb
    | some y =>
      rw [hy] at h1 hb
      obtain ⟨s, e1, e2, _⟩ := DataW.trod_string u9 h1
      simp only [Option.map_some, Option.some.injEq] at hb
      rw [e2] at hb
      simp only [DataW.lit.injEq, Lit.string.injEq] at hb
      rw [hcell i]
      have e3 : cs3.toList[i]? = some (.string s) := by
        have := congrArg (fun l => l[0]?) e1
        simpa [List.getElem?_take, List.getElem?_drop] using this
      rw [← Array.getElem?_toList, e3]
      obtain ⟨s⟩ := s
      have : s = b.toArray := by rw [← hb]
      subst this; rfl
  refine ⟨?_, fun o v hv => ?_⟩
  · have := key 0 [97, 98] (by omega) (by rw [← hx.1]; rfl)
    exact cell_lt this
  · have hlt : o < 12 := (List.getElem?_eq_some_iff.1 hv).1
    have : o = 0 ∨ o = 1 ∨ o = 2 ∨ o = 3 ∨ o = 4 ∨ o = 5 ∨ o = 6 ∨ o = 7 ∨ o = 8 ∨ o = 9 ∨ o = 10 ∨ o = 11 := by omega
    rcases this with rfl | rfl | rfl | rfl | rfl | rfl | rfl | rfl | rfl | rfl | rfl | rfl <;>
      · rw [← hv]; exact key _ _ hlt (by rw [← hx.1]; rfl)

section
variable {H : Type} {enc : TypeId × Value → H} {P : Program} {w : World} {base : Nat} {spare : Nat → Bool} {held : Bool}

theorem open_bools {r : Reach} {b0 : Nat} {t e : TypeId} {v : Value} {d : DataW H} {ps : List MemPlace} (ht : P.underlying t = some (.slice e)) (he : P.underlying e = some .bool) (hc : P.cellsOf e = 1) (hval : Value.okWide P w r b0 t v) (hd : DataW.Trod enc P w base spare held t v d ps) :
    v = .slice none 0 0 ∨ ∃ (a : Addr) (len cap : Nat) (bits : Nat → Bool), v = .slice (some a) len cap ∧ len ≤ cap ∧ ∀ i, i < len → w.cell? (a.add i) = some (.bool (bits i)) := by
  obtain ⟨a, n, c, rfl⟩ := okWide_slice ht hval
  obtain ⟨fuel, hf⟩ := hd
  rcases DataW.trod_slice ht hf with ⟨h1, _⟩ | ⟨a', len, cap, elems, rest, m, _, h1, _, _, hlc, _, hlen, hel, _⟩
  · left; simpa [Value.cells] using h1
  · right
    have h2 : a = some a' ∧ n = len ∧ c = cap := by simpa [Value.cells] using h1
    obtain ⟨rfl, rfl, rfl⟩ := h2
    have each : ∀ i, i < n → ∃ b, w.cell? (a'.add i) = some (.bool b) := fun i hi => by
      have h3 := hel i hi
      rw [hc, Nat.mul_one] at h3
      have hi' : i < elems.length := by omega
      rw [List.getElem?_eq_getElem hi', Option.bind_eq_some_iff] at h3
      obtain ⟨cs, hcs, h4⟩ := h3
      obtain ⟨b, rfl, _⟩ := DataW.trod_bool he h4
      exact ⟨b, cell_of_cells?_one hcs⟩
    refine ⟨a', n, c, fun i => match w.cell? (a'.add i) with | some (.bool b) => b | _ => false, rfl, hlc, fun i hi => ?_⟩
    obtain ⟨b, hb⟩ := each i hi
    simp only [hb]

theorem okRow_int {r : Reach} {b0 : Nat} {v : Value} (h3 : P.underlying 3 = some (.int .i64)) (h : Cell.okWide P w r b0 3 v) : ∃ n, v = .int .i64 n := by
  simp only [Cell.okWide, h3] at h
  cases v <;> simp_all [Cell.ok]

theorem open_ints4 {r : Reach} {b0 : Nat} {t : TypeId} {v : Value} {fs : Array Field} (ht : P.underlying t = some (.struct fs)) (hct : P.cellTypes P.depth t = some [3, 3, 3, 3]) (h3 : P.underlying 3 = some (.int .i64)) (hsz : P.cellsOf t = 4) (h : Value.okWide P w r b0 t v) :
    ∃ a b c d, v = .agg #[.int .i64 a, .int .i64 b, .int .i64 c, .int .i64 d] := by
  simp only [Value.okWide, ht] at h
  obtain ⟨⟨cs⟩, rfl, hs, ts, hts, _, hall⟩ := h
  rw [hct] at hts; cases hts
  rw [hsz] at hs
  match cs, hs with
  | [x0, x1, x2, x3], _ =>
    obtain ⟨u0, e0, k0⟩ := hall 0 x0 rfl
    obtain ⟨u1, e1, k1⟩ := hall 1 x1 rfl
    obtain ⟨u2, e2, k2⟩ := hall 2 x2 rfl
    obtain ⟨u3', e3, k3⟩ := hall 3 x3 rfl
    cases e0; cases e1; cases e2; cases e3
    obtain ⟨a, rfl⟩ := okRow_int h3 k0
    obtain ⟨b, rfl⟩ := okRow_int h3 k1
    obtain ⟨c, rfl⟩ := okRow_int h3 k2
    obtain ⟨d, rfl⟩ := okRow_int h3 k3
    exact ⟨a, b, c, d, rfl⟩
end

theorem Kept.below {w w' : World} (h : Kept w w') : Below w.heap.size w w' := ⟨h.os, h.tape, h.output, h.size, h.block⟩

theorem CallRet.calls {f : FuncId} {F : Func} {c : Code} (hf : cx.fn f = some F) (hb : F.body = some c) {args : Array Value} {w : World} {Ψ : Value → World → Prop} (h : CallRet prog f args w Ψ) : Calls prog f args w fun e w' => ∃ v, e = .returned v ∧ Ψ v w' := by
  rcases h with ⟨v, w', h1, _⟩ | ⟨_, h2⟩
  · rw [callFunc_enter cxOk hf hb args w] at h1; cases h1
  · exact h2
end Go.Proofs.Tryz
