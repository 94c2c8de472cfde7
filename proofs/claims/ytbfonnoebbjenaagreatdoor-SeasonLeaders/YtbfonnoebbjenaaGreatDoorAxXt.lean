/- On the season seat: totals that are handed, opened. On the season seat: a question that is handed, opened. -/
import Derived.Test.YtbfonnoebbjenaaGreatDoorAxD
import Derived.Test.YtbfonnoebbjenaaGreatDoorAxTb
namespace Go.Proofs.Tryz
open Go Go.Am Go.ChangeShapes Go.WideShapes Go.ChangeAt Go.RowKit
set_option maxRecDepth 100000

noncomputable def fs56 : Array Field := match prog.underlying 56 with | some (.struct fs) => fs | _ => #[]
theorem x38 : prog.underlying 38 = some (.slice 56) := by kernel_rfl
theorem x56 : prog.underlying 56 = some (.struct fs56) := by kernel_rfl
theorem xn56 : fs56.size = 3 := by kernel_rfl
theorem xt56 : (fs56.toList.map fun f => (f.type, f.offset)) = [(9, 0), (3, 1), (54, 2)] := by kernel_rfl
theorem xc56 : prog.cellsOf 56 = 14 := by kernel_rfl
section
variable {H : Type} {enc : TypeId × Value → H} {w : World} {base : Nat} {spare : Nat → Bool} {held : Bool}
theorem total_open {fuel : Nat} {cs : List Value} {x : DataW H × List MemPlace} (h : DataW.trod enc prog w base spare held fuel 56 cs = some x) : ∃ d : Tot, cs = d.cells := by
  obtain ⟨ys, n, _, _, hl, hn, hf⟩ := DataW.trod_struct x56 h
  rw [xc56] at hl
  rw [xn56] at hn
  match cs, hl with
  | v0 :: v1 :: r, hl =>
    match ys, hn with
    | [z0, z1, z2], _ =>
      obtain ⟨f0, a0, b0, d0⟩ := field_at xt56 (i := 0) (t := 9) (o := 0) rfl
      obtain ⟨f1, a1, b1, d1⟩ := field_at xt56 (i := 1) (t := 3) (o := 1) rfl
      obtain ⟨f2, a2, b2, d2⟩ := field_at xt56 (i := 2) (t := 54) (o := 2) rfl
      have k0 := hf 0 f0 a0
      have k1 := hf 1 f1 a1
      have k2 := hf 2 f2 a2
      rw [b0, d0, xc9] at k0
      rw [b1, d1, xc3] at k1
      rw [b2, d2, xc54] at k2
      obtain ⟨p0, e0, _⟩ := DataW.trod_string x9 (show _ = some z0 from k0)
      obtain ⟨p1, e1, _⟩ := DataW.trod_int x3 (show _ = some z1 from k1)
      obtain ⟨c, e2⟩ := arr_int x54 x3 xc3 xc54 (show _ = some z2 from k2)
      simp only [List.length_cons] at hl
      have hr : List.take 12 r = r := List.take_of_length_le (by omega)
      simp only [List.drop_succ_cons, List.drop_zero, List.take_succ_cons, List.take_zero, List.cons.injEq, and_true] at e0 e1 e2
      rw [hr] at e2
      subst e0 e1 e2
      exact ⟨⟨p0.data.toList, p1, c⟩, by simp only [Tot.cells, bA_data]⟩
theorem totals_open {fuel : Nat} {v : Value} {x : DataW H × List MemPlace} (h : DataW.trod enc prog w base spare held fuel 38 [v] = some x) : ∃ l : List Tot, IsTots w v l := by
  obtain ⟨k, d, f, h1, h2⟩ := row_open x38 xc56 (by decide) tot0 (fun d cs => cs = d.cells) (fun d cs e => by rw [e, Tot.len]) (fun h => total_open h) h
  refine ⟨(List.range k).map d, ?_⟩
  unfold IsTots
  rw [List.length_map, List.length_range]
  refine h1.congr fun i hi => ?_
  rw [h2 i hi, List.getElem?_map, List.getElem?_range hi]
  rfl
variable {d : DataW H} {ps : List MemPlace}
theorem totals_arg {r : Reach} {b0 : Nat} {v : Value} (hval : Value.okWide prog w r b0 38 v) (h : DataW.Trod enc prog w base spare held 38 v d ps) : ∃ (_ : Nat) (l : List Tot), IsTots w v l := by
  simp only [Value.okWide, Cell.okWide, x38] at hval
  obtain ⟨fuel, hf⟩ := h
  cases v with
  | agg cs => simp_all [Cell.ok]
  | _ => exact ⟨0, totals_open (show DataW.trod enc prog w base spare held fuel 38 [_] = some _ from hf)⟩
end
end Go.Proofs.Tryz

namespace Go.Proofs.Tryz
open Go Go.Am Go.ChangeShapes Go.WideShapes Go.ChangeAt Go.RowKit
set_option maxRecDepth 100000

noncomputable def fs45 : Array Field := match prog.underlying 45 with | some (.struct fs) => fs | _ => #[]
theorem x45 : prog.underlying 45 = some (.struct fs45) := by kernel_rfl
theorem xn45 : fs45.size = 4 := by kernel_rfl
theorem xt45 : (fs45.toList.map fun f => (f.type, f.offset)) = [(9, 0), (9, 1), (3, 2), (3, 3)] := by kernel_rfl
theorem xc45 : prog.cellsOf 45 = 4 := by kernel_rfl
section
variable {H : Type} {enc : TypeId × Value → H} {w : World} {base : Nat} {spare : Nat → Bool} {held : Bool} {d : DataW H} {ps : List MemPlace}
theorem question_arg {r : Reach} {b0 : Nat} {v : Value} (hval : Value.okWide prog w r b0 45 v) (h : DataW.Trod enc prog w base spare held 45 v d ps) :
    ∃ (num den : List UInt8) (least n : Int), v = .agg #[.string (bA num), .string (bA den), .int .i64 least, .int .i64 n] := by
  obtain ⟨⟨cs⟩, rfl⟩ := agg_of x45 hval
  obtain ⟨fuel, hf⟩ := h
  obtain ⟨ys, n, _, _, hl, hn, hf⟩ := DataW.trod_struct x45 (show DataW.trod enc prog w base spare held fuel 45 cs = some _ from hf)
  rw [xc45] at hl
  rw [xn45] at hn
  match cs, hl with
  | [v0, v1, v2, v3], _ =>
    match ys, hn with
    | [z0, z1, z2, z3], _ =>
      obtain ⟨f0, a0, b0, d0⟩ := field_at xt45 (i := 0) (t := 9) (o := 0) rfl
      obtain ⟨f1, a1, b1, d1⟩ := field_at xt45 (i := 1) (t := 9) (o := 1) rfl
      obtain ⟨f2, a2, b2, d2⟩ := field_at xt45 (i := 2) (t := 3) (o := 2) rfl
      obtain ⟨f3, a3, b3, d3⟩ := field_at xt45 (i := 3) (t := 3) (o := 3) rfl
      have k0 := hf 0 f0 a0
      have k1 := hf 1 f1 a1
      have k2 := hf 2 f2 a2
      have k3 := hf 3 f3 a3
      rw [b0, d0, xc9] at k0
      rw [b1, d1, xc9] at k1
      rw [b2, d2, xc3] at k2
      rw [b3, d3, xc3] at k3
      obtain ⟨p0, e0, _⟩ := DataW.trod_string x9 (show _ = some z0 from k0)
      obtain ⟨p1, e1, _⟩ := DataW.trod_string x9 (show _ = some z1 from k1)
      obtain ⟨p2, e2, _⟩ := DataW.trod_int x3 (show _ = some z2 from k2)
      obtain ⟨p3, e3, _⟩ := DataW.trod_int x3 (show _ = some z3 from k3)
      simp only [List.drop_succ_cons, List.drop_zero, List.take_succ_cons, List.take_zero, List.cons.injEq, and_true] at e0 e1 e2 e3
      subst e0 e1 e2 e3
      exact ⟨p0.data.toList, p1.data.toList, p2, p3, by simp only [bA_data]⟩
end
end Go.Proofs.Tryz
