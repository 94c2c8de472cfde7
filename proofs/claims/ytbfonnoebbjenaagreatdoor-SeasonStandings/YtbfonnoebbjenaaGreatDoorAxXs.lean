/- On the season seat: names and standings that are handed, opened. -/
import Derived.Test.YtbfonnoebbjenaaGreatDoorAxG
import Derived.Test.YtbfonnoebbjenaaGreatDoorAxTj
namespace Go.Proofs.Tryz
open Go Go.Am Go.ChangeShapes Go.WideShapes Go.ChangeAt Go.RowKit
set_option maxRecDepth 100000

noncomputable def fs84 : Array Field := match prog.underlying 84 with | some (.struct fs) => fs | _ => #[]
theorem x84 : prog.underlying 84 = some (.struct fs84) := by kernel_rfl
theorem x85 : prog.underlying 85 = some (.array 2 84) := by kernel_rfl
theorem xn84 : fs84.size = 6 := by kernel_rfl
theorem xt84 : (fs84.toList.map fun f => (f.type, f.offset)) = [(9, 0), (3, 1), (3, 2), (3, 3), (3, 4), (3, 5)] := by kernel_rfl
theorem xc84 : prog.cellsOf 84 = 6 := by kernel_rfl
theorem xc85 : prog.cellsOf 85 = 12 := by kernel_rfl
section
variable {H : Type} {enc : TypeId × Value → H} {w : World} {base : Nat} {spare : Nat → Bool} {held : Bool} {d : DataW H} {ps : List MemPlace}
theorem std_open {fuel : Nat} {cs : List Value} {x : DataW H × List MemPlace} (h : DataW.trod enc prog w base spare held fuel 84 cs = some x) : ∃ s : Std, cs = s.cells := by
  obtain ⟨ys, n, _, _, hl, hn, hf⟩ := DataW.trod_struct x84 h
  rw [xc84] at hl
  rw [xn84] at hn
  match cs, hl with
  | [v0, v1, v2, v3, v4, v5], _ =>
    match ys, hn with
    | [z0, z1, z2, z3, z4, z5], _ =>
      obtain ⟨f0, a0, b0, d0⟩ := field_at xt84 (i := 0) (t := 9) (o := 0) rfl
      obtain ⟨f1, a1, b1, d1⟩ := field_at xt84 (i := 1) (t := 3) (o := 1) rfl
      obtain ⟨f2, a2, b2, d2⟩ := field_at xt84 (i := 2) (t := 3) (o := 2) rfl
      obtain ⟨f3, a3, b3, d3⟩ := field_at xt84 (i := 3) (t := 3) (o := 3) rfl
      obtain ⟨f4, a4, b4, d4⟩ := field_at xt84 (i := 4) (t := 3) (o := 4) rfl
      obtain ⟨f5, a5, b5, d5⟩ := field_at xt84 (i := 5) (t := 3) (o := 5) rfl
      have k0 := hf 0 f0 a0
      have k1 := hf 1 f1 a1
      have k2 := hf 2 f2 a2
      have k3 := hf 3 f3 a3
      have k4 := hf 4 f4 a4
      have k5 := hf 5 f5 a5
      rw [b0, d0, xc9] at k0
      rw [b1, d1, xc3] at k1
      rw [b2, d2, xc3] at k2
      rw [b3, d3, xc3] at k3
      rw [b4, d4, xc3] at k4
      rw [b5, d5, xc3] at k5
      obtain ⟨p0, e0, _⟩ := DataW.trod_string x9 (show _ = some z0 from k0)
      obtain ⟨p1, e1, _⟩ := DataW.trod_int x3 (show _ = some z1 from k1)
      obtain ⟨p2, e2, _⟩ := DataW.trod_int x3 (show _ = some z2 from k2)
      obtain ⟨p3, e3, _⟩ := DataW.trod_int x3 (show _ = some z3 from k3)
      obtain ⟨p4, e4, _⟩ := DataW.trod_int x3 (show _ = some z4 from k4)
      obtain ⟨p5, e5, _⟩ := DataW.trod_int x3 (show _ = some z5 from k5)
      simp only [List.drop_succ_cons, List.drop_zero, List.take_succ_cons, List.take_zero, List.cons.injEq, and_true] at e0 e1 e2 e3 e4 e5
      subst e0 e1 e2 e3 e4 e5
      exact ⟨⟨p0.data.toList, p1, p2, p3, p4, p5⟩, by simp only [Std.cells, bA_data]⟩
/-- An array's value is its cells. -/
theorem agg_arr {W : World} {r : Reach} {b0 : Nat} {t n e : TypeId} (ht : prog.underlying t = some (.array n e)) {v : Value} (h : Value.okWide prog W r b0 t v) : ∃ cs : Array Value, v = .agg cs := by
  simp only [Value.okWide, ht] at h
  obtain ⟨cs, e, _⟩ := h
  exact ⟨cs, e⟩
theorem names_arg {r : Reach} {b0 : Nat} {v : Value} (hval : Value.okWide prog w r b0 82 v) (h : DataW.Trod enc prog w base spare held 82 v d ps) :
    ∃ a b : List UInt8, v = .agg #[.string (bA a), .string (bA b)] := by
  obtain ⟨⟨cs⟩, rfl⟩ := agg_arr x82 hval
  obtain ⟨fuel, hf⟩ := h
  obtain ⟨a, b, e⟩ := arr_str2 x82 x9 xc9 xc82 (show DataW.trod enc prog w base spare held fuel 82 cs = some _ from hf)
  exact ⟨a, b, by rw [e]⟩
theorem stds_arg {r : Reach} {b0 : Nat} {v : Value} (hval : Value.okWide prog w r b0 85 v) (h : DataW.Trod enc prog w base spare held 85 v d ps) :
    ∃ x y : Std, v = .agg (x.cells ++ y.cells).toArray := by
  obtain ⟨⟨cs⟩, rfl⟩ := agg_arr x85 hval
  obtain ⟨fuel, hf⟩ := h
  obtain ⟨xs, m, _, _, hl, hn, hel⟩ := DataW.trod_array x85 (show DataW.trod enc prog w base spare held fuel 85 cs = some _ from hf)
  rw [xc85] at hl
  have h0 := hel 0 (by omega)
  have h1 := hel 1 (by omega)
  rw [xc84, List.getElem?_eq_getElem (by omega)] at h0 h1
  obtain ⟨x, e0⟩ := std_open h0
  obtain ⟨y, e1⟩ := std_open h1
  refine ⟨x, y, ?_⟩
  congr 1
  congr 1
  rw [← e0, ← e1, Nat.zero_mul, List.drop_zero, Nat.one_mul]
  have : (List.take 6 (List.drop 6 cs)) = List.drop 6 cs := List.take_of_length_le (by rw [List.length_drop]; omega)
  rw [this, List.take_append_drop]
end
end Go.Proofs.Tryz
