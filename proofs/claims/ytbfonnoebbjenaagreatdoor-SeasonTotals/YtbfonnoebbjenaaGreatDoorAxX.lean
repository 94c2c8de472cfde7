/- On the season seat: games that are handed, opened. -/
import Derived.Test.YtbfonnoebbjenaaGreatDoorAxL
namespace Go.Proofs.Tryz
open Go Go.Am Go.ChangeShapes Go.WideShapes Go.ChangeAt Go.RowKit
set_option maxRecDepth 100000

noncomputable def fs151 : Array Field := match prog.underlying 151 with | some (.struct fs) => fs | _ => #[]
noncomputable def fs105 : Array Field := match prog.underlying 105 with | some (.struct fs) => fs | _ => #[]
theorem x9 : prog.underlying 9 = some .string := by kernel_rfl
theorem x3 : prog.underlying 3 = some (.int .i64) := by kernel_rfl
theorem x54 : prog.underlying 54 = some (.array 12 3) := by kernel_rfl
theorem x82 : prog.underlying 82 = some (.array 2 9) := by kernel_rfl
theorem x102 : prog.underlying 102 = some (.array 2 3) := by kernel_rfl
theorem x103 : prog.underlying 103 = some (.slice 151) := by kernel_rfl
theorem x22 : prog.underlying 22 = some (.slice 105) := by kernel_rfl
theorem x151 : prog.underlying 151 = some (.struct fs151) := by kernel_rfl
theorem x105 : prog.underlying 105 = some (.struct fs105) := by kernel_rfl
theorem xn151 : fs151.size = 3 := by kernel_rfl
theorem xn105 : fs105.size = 6 := by kernel_rfl
theorem xt151 : (fs151.toList.map fun f => (f.type, f.offset)) = [(9, 0), (9, 1), (54, 2)] := by kernel_rfl
theorem xt105 : (fs105.toList.map fun f => (f.type, f.offset)) = [(9, 0), (3, 1), (3, 2), (82, 3), (102, 5), (103, 7)] := by kernel_rfl
theorem xc9 : prog.cellsOf 9 = 1 := by kernel_rfl
theorem xc3 : prog.cellsOf 3 = 1 := by kernel_rfl
theorem xc54 : prog.cellsOf 54 = 12 := by kernel_rfl
theorem xc82 : prog.cellsOf 82 = 2 := by kernel_rfl
theorem xc102 : prog.cellsOf 102 = 2 := by kernel_rfl
theorem xc103 : prog.cellsOf 103 = 1 := by kernel_rfl
theorem xc151 : prog.cellsOf 151 = 14 := by kernel_rfl
theorem xc105 : prog.cellsOf 105 = 8 := by kernel_rfl
theorem ints_eta2 (f : Nat → Int) : ints 2 f = [.int .i64 (f 0), .int .i64 (f 1)] := rfl
section
variable {H : Type} {enc : TypeId × Value → H} {w : World} {base : Nat} {spare : Nat → Bool} {held : Bool}
theorem line_open {fuel : Nat} {cs : List Value} {x : DataW H × List MemPlace} (h : DataW.trod enc prog w base spare held fuel 151 cs = some x) : ∃ d : LnD, cs = d.cells := by
  obtain ⟨ys, n, _, _, hl, hn, hf⟩ := DataW.trod_struct x151 h
  rw [xc151] at hl
  rw [xn151] at hn
  match cs, hl with
  | v0 :: v1 :: r, hl =>
    match ys, hn with
    | [z0, z1, z2], _ =>
      obtain ⟨f0, a0, b0, d0⟩ := field_at xt151 (i := 0) (t := 9) (o := 0) rfl
      obtain ⟨f1, a1, b1, d1⟩ := field_at xt151 (i := 1) (t := 9) (o := 1) rfl
      obtain ⟨f2, a2, b2, d2⟩ := field_at xt151 (i := 2) (t := 54) (o := 2) rfl
      have k0 := hf 0 f0 a0
      have k1 := hf 1 f1 a1
      have k2 := hf 2 f2 a2
      rw [b0, d0, xc9] at k0
      rw [b1, d1, xc9] at k1
      rw [b2, d2, xc54] at k2
      obtain ⟨p0, e0, _⟩ := DataW.trod_string x9 (show _ = some z0 from k0)
      obtain ⟨p1, e1, _⟩ := DataW.trod_string x9 (show _ = some z1 from k1)
      obtain ⟨c, e2⟩ := arr_int x54 x3 xc3 xc54 (show _ = some z2 from k2)
      simp only [List.length_cons] at hl
      have hr : List.take 12 r = r := List.take_of_length_le (by omega)
      simp only [List.drop_succ_cons, List.drop_zero, List.take_succ_cons, List.take_zero, List.cons.injEq, and_true] at e0 e1 e2
      rw [hr] at e2
      subst e0 e1 e2
      exact ⟨⟨p0.data.toList, p1.data.toList, c⟩, by simp only [LnD.cells, bA_data]⟩
theorem lines_open {fuel : Nat} {v : Value} {x : DataW H × List MemPlace} (h : DataW.trod enc prog w base spare held fuel 103 [v] = some x) : ∃ (k : Nat) (l : Nat → LnD), IsLines w v l k := by
  obtain ⟨k, d, f, h1, h2⟩ := row_open x103 xc151 (by decide) (⟨[], [], fun _ => 0⟩ : LnD) (fun d cs => cs = d.cells) (fun d cs e => by rw [e, LnD.len]) (fun h => line_open h) h
  exact ⟨k, d, h1.congr fun i hi => h2 i hi⟩
theorem game_open {fuel : Nat} {cs : List Value} {x : DataW H × List MemPlace} (h : DataW.trod enc prog w base spare held fuel 105 cs = some x) : ∃ (g : GmD) (lv : Value), cs = g.cells lv ∧ IsLines w lv g.l g.k := by
  obtain ⟨ys, n, _, _, hl, hn, hf⟩ := DataW.trod_struct x105 h
  rw [xc105] at hl
  rw [xn105] at hn
  match cs, hl with
  | [v0, v1, v2, v3, v4, v5, v6, v7], _ =>
    match ys, hn with
    | [z0, z1, z2, z3, z4, z5], _ =>
      obtain ⟨f0, a0, b0, d0⟩ := field_at xt105 (i := 0) (t := 9) (o := 0) rfl
      obtain ⟨f1, a1, b1, d1⟩ := field_at xt105 (i := 1) (t := 3) (o := 1) rfl
      obtain ⟨f2, a2, b2, d2⟩ := field_at xt105 (i := 2) (t := 3) (o := 2) rfl
      obtain ⟨f3, a3, b3, d3⟩ := field_at xt105 (i := 3) (t := 82) (o := 3) rfl
      obtain ⟨f4, a4, b4, d4⟩ := field_at xt105 (i := 4) (t := 102) (o := 5) rfl
      obtain ⟨f5, a5, b5, d5⟩ := field_at xt105 (i := 5) (t := 103) (o := 7) rfl
      have k0 := hf 0 f0 a0
      have k1 := hf 1 f1 a1
      have k2 := hf 2 f2 a2
      have k3 := hf 3 f3 a3
      have k4 := hf 4 f4 a4
      have k5 := hf 5 f5 a5
      rw [b0, d0, xc9] at k0
      rw [b1, d1, xc3] at k1
      rw [b2, d2, xc3] at k2
      rw [b3, d3, xc82] at k3
      rw [b4, d4, xc102] at k4
      rw [b5, d5, xc103] at k5
      obtain ⟨p0, e0, _⟩ := DataW.trod_string x9 (show _ = some z0 from k0)
      obtain ⟨p1, e1, _⟩ := DataW.trod_int x3 (show _ = some z1 from k1)
      obtain ⟨p2, e2, _⟩ := DataW.trod_int x3 (show _ = some z2 from k2)
      obtain ⟨t0, t1, e3⟩ := arr_str2 x82 x9 xc9 xc82 (show _ = some z3 from k3)
      obtain ⟨s, e4⟩ := arr_int x102 x3 xc3 xc102 (show _ = some z4 from k4)
      obtain ⟨k, l, hm⟩ := lines_open (show DataW.trod enc prog w base spare held n 103 [v7] = some z5 from k5)
      rw [ints_eta2] at e4
      simp only [List.drop_succ_cons, List.drop_zero, List.take_succ_cons, List.take_zero, List.cons.injEq, and_true] at e0 e1 e2 e3 e4
      obtain ⟨e3, e3'⟩ := e3
      obtain ⟨e4, e4'⟩ := e4
      subst e0 e1 e2 e3 e3' e4 e4'
      exact ⟨⟨p0.data.toList, p1, p2, t0, t1, s 0, s 1, l, k⟩, v7, by simp only [GmD.cells, bA_data], hm⟩
theorem games_open {fuel : Nat} {v : Value} {x : DataW H × List MemPlace} (h : DataW.trod enc prog w base spare held fuel 22 [v] = some x) : ∃ (n : Nat) (g : Nat → GmD), IsGames w v g n := by
  obtain ⟨n, d, f, h1, h2⟩ := row_open x22 xc105 (by decide) (⟨[], 0, 0, [], [], 0, 0, fun _ => ⟨[], [], fun _ => 0⟩, 0⟩ : GmD) (fun d cs => ∃ lv, cs = d.cells lv ∧ IsLines w lv d.l d.k) (fun d cs e => by obtain ⟨lv, e, -⟩ := e; rw [e, GmD.len]) (fun h => by obtain ⟨g, lv, e⟩ := game_open h; exact ⟨g, lv, e⟩) h
  refine ⟨n, d, fun i => if h : i < n then (h2 i h).choose else .bool false, h1.congr fun i hi => ?_, fun i hi => ?_⟩
  · simp only [dif_pos hi]; exact (h2 i hi).choose_spec.1
  · simp only [dif_pos hi]; exact (h2 i hi).choose_spec.2
variable {d : DataW H} {ps : List MemPlace}
/-- A structure's value is its cells. -/
theorem agg_of {W : World} {r : Reach} {b0 : Nat} {t : TypeId} {fs : Array Field} (ht : prog.underlying t = some (.struct fs)) {v : Value} (h : Value.okWide prog W r b0 t v) : ∃ cs : Array Value, v = .agg cs := by
  simp only [Value.okWide, ht] at h
  obtain ⟨cs, e, _⟩ := h
  exact ⟨cs, e⟩
theorem game_arg {r : Reach} {b0 : Nat} {v : Value} (hval : Value.okWide prog w r b0 105 v) (h : DataW.Trod enc prog w base spare held 105 v d ps) :
    ∃ (g : GmD) (ad : Option Addr) (kc : Nat), v = g.val (.slice ad g.k kc) ∧ IsLines w (.slice ad g.k kc) g.l g.k := by
  obtain ⟨⟨cs⟩, rfl⟩ := agg_of x105 hval
  obtain ⟨fuel, hf⟩ := h
  obtain ⟨g, lv, e, hl⟩ := game_open (show DataW.trod enc prog w base spare held fuel 105 cs = some _ from hf)
  obtain ⟨ad, kc, e2, -⟩ := Row.slice hl
  subst e e2
  exact ⟨g, ad, kc, rfl, hl⟩
theorem games_arg {r : Reach} {b0 : Nat} {v : Value} (hval : Value.okWide prog w r b0 22 v) (h : DataW.Trod enc prog w base spare held 22 v d ps) : ∃ (n : Nat) (g : Nat → GmD), IsGames w v g n := by
  simp only [Value.okWide, Cell.okWide, x22] at hval
  obtain ⟨fuel, hf⟩ := h
  cases v with
  | agg cs => simp_all [Cell.ok]
  | _ => exact games_open (show DataW.trod enc prog w base spare held fuel 22 [_] = some _ from hf)
end
end Go.Proofs.Tryz
