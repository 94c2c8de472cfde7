/- Lists of games that are built one by one. On the season seat: games that are handed, opened. Games of the reference as ones of the season, and told the other way round: by the kit's walk. -/
import Derived.Test.YtbfonnoebbjenaaGreatDoorAxG
namespace Go.Proofs.Tryz
open Go Go.Am Go.RowKit Go.Op
set_option maxRecDepth 100000

def linesL (l : Nat → LnD) (k : Nat) : List (List Value) := (List.range k).map fun i => (l i).cells
theorem linesL_len (l : Nat → LnD) (k : Nat) : (linesL l k).length = k := by simp [linesL]
theorem linesL_snoc (l : Nat → LnD) (k : Nat) : linesL l (k + 1) = linesL l k ++ [(l k).cells] := by unfold linesL; rw [List.range_succ, List.map_append]; rfl
def gamesL (g : Nat → GmD) (lv : Nat → Value) (n : Nat) : List (List Value) := (List.range n).map fun i => (g i).cells (lv i)
theorem gamesL_len (g : Nat → GmD) (lv : Nat → Value) (n : Nat) : (gamesL g lv n).length = n := by simp [gamesL]
theorem info_more {e : TypeId} {z : Value} {s b : Nat} (h : (prog.info? e).map (fun i => (i.zero, i.size, i.bytes)) = some (some z, s, b)) : ∃ i, prog.info? e = some i ∧ i.zero = some z ∧ i.size = s ∧ i.bytes = b := by
  cases hi : prog.info? e with
  | none => rw [hi] at h; cases h
  | some i => rw [hi] at h; simp only [Option.map_some, Option.some.injEq, Prod.mk.injEq] at h; exact ⟨i, rfl, h.1, h.2.1, h.2.2⟩
/-- Lines in a row of the call's own. -/
def OwnLines (w : World) (base eL : Nat) (v : Value) (l : Nat → LnD) (k : Nat) : Prop := OwnRow w base eL 14 v (linesL l k)
theorem OwnLines.start (w : World) (base eL : Nat) (l : Nat → LnD) : OwnLines w base eL (.slice none 0 0) l 0 := OwnRow.start _ _ _ _
theorem OwnLines.below {w W : World} {base eL : Nat} {v : Value} {l : Nat → LnD} {k : Nat} (h : OwnLines w base eL v l k) (hb : Below w.heap.size w W) : OwnLines W base eL v l k := OwnRow.below h hb
theorem OwnLines.mono {w : World} {base b2 eL : Nat} {v : Value} {l : Nat → LnD} {k : Nat} (h : OwnLines w base eL v l k) (hb : b2 ≤ base) : OwnLines w b2 eL v l k := OwnRow.mono h hb
theorem OwnLines.is {w : World} {base eL : Nat} {v : Value} {l : Nat → LnD} {k : Nat} (h : OwnLines w base eL v l k) : IsLines w v l k := by
  have h2 := OwnRow.row h
  rw [linesL_len] at h2
  exact h2.congr fun i hi => by simp [linesL, hi]
theorem OwnLines.slice {w : World} {base eL : Nat} {v : Value} {l : Nat → LnD} {k : Nat} (h : OwnLines w base eL v l k) : ∃ a c, v = .slice a k c := by
  obtain ⟨a, c, e⟩ := OwnRow.slice h
  rw [linesL_len] at e
  exact ⟨a, c, e⟩
theorem OwnLines.more {w w' : World} {base eL : Nat} {v u : Value} {l : Nat → LnD} {k : Nat} (hA : AppR w w' base eL 14 (linesL l k) (l k).cells v u) : OwnLines w' base eL u l (k + 1) := by
  unfold OwnLines
  rw [linesL_snoc]
  exact hA.row
/-- Games in a row of the call's own, their lines too. -/
def OwnGames (w : World) (base e eL : Nat) (v : Value) (g : Nat → GmD) (n : Nat) : Prop := ∃ lv : Nat → Value, OwnRow w base e 8 v (gamesL g lv n) ∧ ∀ i, i < n → OwnLines w base eL (lv i) (g i).l (g i).k
theorem OwnGames.start (w : World) (base e eL : Nat) (g : Nat → GmD) : OwnGames w base e eL (.slice none 0 0) g 0 := ⟨fun _ => .bool false, OwnRow.start _ _ _ _, fun _ h => absurd h (Nat.not_lt_zero _)⟩
theorem OwnGames.is {w : World} {base e eL : Nat} {v : Value} {g : Nat → GmD} {n : Nat} (h : OwnGames w base e eL v g n) : IsGames w v g n := by
  obtain ⟨lv, h1, h2⟩ := h
  refine ⟨lv, ?_, fun i hi => (h2 i hi).is⟩
  have h3 := h1.row
  rw [gamesL_len] at h3
  exact h3.congr fun i hi => by simp [gamesL, hi]
theorem OwnGames.slice {w : World} {base e eL : Nat} {v : Value} {g : Nat → GmD} {n : Nat} (h : OwnGames w base e eL v g n) : ∃ a c, v = .slice a n c := by
  obtain ⟨lv, h1, -⟩ := h
  obtain ⟨a, c, e⟩ := h1.slice
  rw [gamesL_len] at e
  exact ⟨a, c, e⟩
theorem OwnGames.more {w w' : World} {base e eL : Nat} {v u lvn : Value} {g : Nat → GmD} {n : Nat} {lv : Nat → Value} (hne : eL ≠ e) (hl : ∀ i, i < n → OwnLines w base eL (lv i) (g i).l (g i).k) (hn : OwnLines w base eL lvn (g n).l (g n).k)
    (hA : AppR w w' base e 8 (gamesL g lv n) ((g n).cells lvn) v u) : OwnGames w' base e eL u g (n + 1) := by
  obtain ⟨k, xs, hu, hg⟩ := hA.grown
  refine ⟨fun i => if i = n then lvn else lv i, ?_, fun i hi => ?_⟩
  · have e1 : gamesL g (fun i => if i = n then lvn else lv i) (n + 1) = gamesL g lv n ++ [(g n).cells lvn] := by
      unfold gamesL
      rw [List.range_succ, List.map_append]
      congr 1
      · exact List.map_congr_left fun i hi => by have := List.mem_range.1 hi; simp only [if_neg (show ¬ i = n by omega)]
      · simp
    rw [e1]
    exact hA.row
  · by_cases h : i = n
    · subst h
      simp only [if_pos]
      exact OwnRow.grown hn hu hne hg
    · simp only [if_neg h]
      exact OwnRow.grown (hl i (by omega)) hu hne hg
theorem infoG : (prog.info? 110).map (fun i => (i.zero, i.size, i.bytes)) = some (some (.agg #[.string ⟨#[]⟩, .int .i64 0, .int .i64 0, .string ⟨#[]⟩, .string ⟨#[]⟩, .int .i64 0, .int .i64 0, .slice none 0 0]), 8, 104) := by kernel_rfl
theorem infoGR : (prog.info? 105).map (fun i => (i.zero, i.size, i.bytes)) = some (some (.agg #[.string ⟨#[]⟩, .int .i64 0, .int .i64 0, .string ⟨#[]⟩, .string ⟨#[]⟩, .int .i64 0, .int .i64 0, .slice none 0 0]), 8, 104) := by kernel_rfl
theorem infoL : (prog.info? 132).map (fun i => (i.zero, i.size, i.bytes)) = some (some (.agg #[.string ⟨#[]⟩, .string ⟨#[]⟩, .int .i64 0, .int .i64 0, .int .i64 0, .int .i64 0, .int .i64 0, .int .i64 0, .int .i64 0, .int .i64 0, .int .i64 0, .int .i64 0, .int .i64 0, .int .i64 0]), 14, 128) := by kernel_rfl
theorem infoLR : (prog.info? 151).map (fun i => (i.zero, i.size, i.bytes)) = some (some (.agg #[.string ⟨#[]⟩, .string ⟨#[]⟩, .int .i64 0, .int .i64 0, .int .i64 0, .int .i64 0, .int .i64 0, .int .i64 0, .int .i64 0, .int .i64 0, .int .i64 0, .int .i64 0, .int .i64 0, .int .i64 0]), 14, 128) := by kernel_rfl
theorem elG : ∃ i, ElT 29 110 8 i (.agg #[.string ⟨#[]⟩, .int .i64 0, .int .i64 0, .string ⟨#[]⟩, .string ⟨#[]⟩, .int .i64 0, .int .i64 0, .slice none 0 0]) 104 := by
  obtain ⟨i, hi, hz0, hz1, hz2⟩ := info_more infoG
  exact ⟨i, by kernel_rfl, hi, hz0, hz1, hz2, rfl, by decide, by decide⟩
theorem elGR : ∃ i, ElT 22 105 8 i (.agg #[.string ⟨#[]⟩, .int .i64 0, .int .i64 0, .string ⟨#[]⟩, .string ⟨#[]⟩, .int .i64 0, .int .i64 0, .slice none 0 0]) 104 := by
  obtain ⟨i, hi, hz0, hz1, hz2⟩ := info_more infoGR
  exact ⟨i, by kernel_rfl, hi, hz0, hz1, hz2, rfl, by decide, by decide⟩
theorem elL : ∃ i, ElT 108 132 14 i (.agg #[.string ⟨#[]⟩, .string ⟨#[]⟩, .int .i64 0, .int .i64 0, .int .i64 0, .int .i64 0, .int .i64 0, .int .i64 0, .int .i64 0, .int .i64 0, .int .i64 0, .int .i64 0, .int .i64 0, .int .i64 0]) 128 := by
  obtain ⟨i, hi, hz0, hz1, hz2⟩ := info_more infoL
  exact ⟨i, by kernel_rfl, hi, hz0, hz1, hz2, rfl, by decide, by decide⟩
theorem elLR : ∃ i, ElT 103 151 14 i (.agg #[.string ⟨#[]⟩, .string ⟨#[]⟩, .int .i64 0, .int .i64 0, .int .i64 0, .int .i64 0, .int .i64 0, .int .i64 0, .int .i64 0, .int .i64 0, .int .i64 0, .int .i64 0, .int .i64 0, .int .i64 0]) 128 := by
  obtain ⟨i, hi, hz0, hz1, hz2⟩ := info_more infoLR
  exact ⟨i, by kernel_rfl, hi, hz0, hz1, hz2, rfl, by decide, by decide⟩
end Go.Proofs.Tryz

namespace Go.Proofs.Tryz
open Go Go.Am Go.ChangeShapes Go.WideShapes Go.ChangeAt Go.RowKit
set_option maxRecDepth 100000

noncomputable def fs151 : Array Field := match prog.underlying 151 with | some (.struct fs) => fs | _ => #[]
noncomputable def fs105 : Array Field := match prog.underlying 105 with | some (.struct fs) => fs | _ => #[]
theorem x9 : prog.underlying 9 = some .string := by kernel_rfl
theorem x3 : prog.underlying 3 = some (.int .i64) := by kernel_rfl
theorem x54 : prog.underlying 54 = some (.array 12 3) := by kernel_rfl
theorem x82 : prog.underlying 82 = some (.array 2 9) := by kernel_rfl
theorem x102 : prog.underlying 102 = some (.array 2 3) := by kernel_rfl
theorem x103 : prog.underlying 103 = some (.slice 151) := by kernel_rfl
theorem x22 : prog.underlying 22 = some (.slice 105) := by kernel_rfl
theorem x151 : prog.underlying 151 = some (.struct fs151) := by kernel_rfl
theorem x105 : prog.underlying 105 = some (.struct fs105) := by kernel_rfl
theorem xn151 : fs151.size = 3 := by kernel_rfl
theorem xn105 : fs105.size = 6 := by kernel_rfl
theorem xt151 : (fs151.toList.map fun f => (f.type, f.offset)) = [(9, 0), (9, 1), (54, 2)] := by kernel_rfl
theorem xt105 : (fs105.toList.map fun f => (f.type, f.offset)) = [(9, 0), (3, 1), (3, 2), (82, 3), (102, 5), (103, 7)] := by kernel_rfl
theorem xc9 : prog.cellsOf 9 = 1 := by kernel_rfl
theorem xc3 : prog.cellsOf 3 = 1 := by kernel_rfl
theorem xc54 : prog.cellsOf 54 = 12 := by kernel_rfl
theorem xc82 : prog.cellsOf 82 = 2 := by kernel_rfl
theorem xc102 : prog.cellsOf 102 = 2 := by kernel_rfl
theorem xc103 : prog.cellsOf 103 = 1 := by kernel_rfl
theorem xc151 : prog.cellsOf 151 = 14 := by kernel_rfl
theorem xc105 : prog.cellsOf 105 = 8 := by kernel_rfl
theorem ints_eta2 (f : Nat → Int) : ints 2 f = [.int .i64 (f 0), .int .i64 (f 1)] := rfl
section
variable {H : Type} {enc : TypeId × Value → H} {w : World} {base : Nat} {spare : Nat → Bool} {held : Bool}
theorem line_open {fuel : Nat} {cs : List Value} {x : DataW H × List MemPlace} (h : DataW.trod enc prog w base spare held fuel 151 cs = some x) : ∃ d : LnD, cs = d.cells := by
  obtain ⟨ys, n, _, _, hl, hn, hf⟩ := DataW.trod_struct x151 h
  rw [xc151] at hl
  rw [xn151] at hn
  match cs, hl with
  | v0 :: v1 :: r, hl =>
    match ys, hn with
    | [z0, z1, z2], _ =>
      obtain ⟨f0, a0, b0, d0⟩ := field_at xt151 (i := 0) (t := 9) (o := 0) rfl
      obtain ⟨f1, a1, b1, d1⟩ := field_at xt151 (i := 1) (t := 9) (o := 1) rfl
      obtain ⟨f2, a2, b2, d2⟩ := field_at xt151 (i := 2) (t := 54) (o := 2) rfl
      have k0 := hf 0 f0 a0
      have k1 := hf 1 f1 a1
      have k2 := hf 2 f2 a2
      rw [b0, d0, xc9] at k0
      rw [b1, d1, xc9] at k1
      rw [b2, d2, xc54] at k2
      obtain ⟨p0, e0, _⟩ := DataW.trod_string x9 (show _ = some z0 from k0)
      obtain ⟨p1, e1, _⟩ := DataW.trod_string x9 (show _ = some z1 from k1)
      obtain ⟨c, e2⟩ := arr_int x54 x3 xc3 xc54 (show _ = some z2 from k2)
      simp only [List.length_cons] at hl
      have hr : List.take 12 r = r := List.take_of_length_le (by omega)
      simp only [List.drop_succ_cons, List.drop_zero, List.take_succ_cons, List.take_zero, List.cons.injEq, and_true] at e0 e1 e2
      rw [hr] at e2
      subst e0 e1 e2
      exact ⟨⟨p0.data.toList, p1.data.toList, c⟩, by simp only [LnD.cells, bA_data]⟩
theorem lines_open {fuel : Nat} {v : Value} {x : DataW H × List MemPlace} (h : DataW.trod enc prog w base spare held fuel 103 [v] = some x) : ∃ (k : Nat) (l : Nat → LnD), IsLines w v l k := by
  obtain ⟨k, d, f, h1, h2⟩ := row_open x103 xc151 (by decide) (⟨[], [], fun _ => 0⟩ : LnD) (fun d cs => cs = d.cells) (fun d cs e => by rw [e, LnD.len]) (fun h => line_open h) h
  exact ⟨k, d, h1.congr fun i hi => h2 i hi⟩
theorem game_open {fuel : Nat} {cs : List Value} {x : DataW H × List MemPlace} (h : DataW.trod enc prog w base spare held fuel 105 cs = some x) : ∃ (g : GmD) (lv : Value), cs = g.cells lv ∧ IsLines w lv g.l g.k := by
  obtain ⟨ys, n, _, _, hl, hn, hf⟩ := DataW.trod_struct x105 h
  rw [xc105] at hl
  rw [xn105] at hn
  match cs, hl with
  | [v0, v1, v2, v3, v4, v5, v6, v7], _ =>
    match ys, hn with
    | [z0, z1, z2, z3, z4, z5], _ =>
      obtain ⟨f0, a0, b0, d0⟩ := field_at xt105 (i := 0) (t := 9) (o := 0) rfl
      obtain ⟨f1, a1, b1, d1⟩ := field_at xt105 (i := 1) (t := 3) (o := 1) rfl
      obtain ⟨f2, a2, b2, d2⟩ := field_at xt105 (i := 2) (t := 3) (o := 2) rfl
      obtain ⟨f3, a3, b3, d3⟩ := field_at xt105 (i := 3) (t := 82) (o := 3) rfl
      obtain ⟨f4, a4, b4, d4⟩ := field_at xt105 (i := 4) (t := 102) (o := 5) rfl
      obtain ⟨f5, a5, b5, d5⟩ := field_at xt105 (i := 5) (t := 103) (o := 7) rfl
      have k0 := hf 0 f0 a0
      have k1 := hf 1 f1 a1
      have k2 := hf 2 f2 a2
      have k3 := hf 3 f3 a3
      have k4 := hf 4 f4 a4
      have k5 := hf 5 f5 a5
      rw [b0, d0, xc9] at k0
      rw [b1, d1, xc3] at k1
      rw [b2, d2, xc3] at k2
      rw [b3, d3, xc82] at k3
      rw [b4, d4, xc102] at k4
      rw [b5, d5, xc103] at k5
      obtain ⟨p0, e0, _⟩ := DataW.trod_string x9 (show _ = some z0 from k0)
      obtain ⟨p1, e1, _⟩ := DataW.trod_int x3 (show _ = some z1 from k1)
      obtain ⟨p2, e2, _⟩ := DataW.trod_int x3 (show _ = some z2 from k2)
      obtain ⟨t0, t1, e3⟩ := arr_str2 x82 x9 xc9 xc82 (show _ = some z3 from k3)
      obtain ⟨s, e4⟩ := arr_int x102 x3 xc3 xc102 (show _ = some z4 from k4)
      obtain ⟨k, l, hm⟩ := lines_open (show DataW.trod enc prog w base spare held n 103 [v7] = some z5 from k5)
      rw [ints_eta2] at e4
      simp only [List.drop_succ_cons, List.drop_zero, List.take_succ_cons, List.take_zero, List.cons.injEq, and_true] at e0 e1 e2 e3 e4
      obtain ⟨e3, e3'⟩ := e3
      obtain ⟨e4, e4'⟩ := e4
      subst e0 e1 e2 e3 e3' e4 e4'
      exact ⟨⟨p0.data.toList, p1, p2, t0, t1, s 0, s 1, l, k⟩, v7, by simp only [GmD.cells, bA_data], hm⟩
theorem games_open {fuel : Nat} {v : Value} {x : DataW H × List MemPlace} (h : DataW.trod enc prog w base spare held fuel 22 [v] = some x) : ∃ (n : Nat) (g : Nat → GmD), IsGames w v g n := by
  obtain ⟨n, d, f, h1, h2⟩ := row_open x22 xc105 (by decide) (⟨[], 0, 0, [], [], 0, 0, fun _ => ⟨[], [], fun _ => 0⟩, 0⟩ : GmD) (fun d cs => ∃ lv, cs = d.cells lv ∧ IsLines w lv d.l d.k) (fun d cs e => by obtain ⟨lv, e, -⟩ := e; rw [e, GmD.len]) (fun h => by obtain ⟨g, lv, e⟩ := game_open h; exact ⟨g, lv, e⟩) h
  refine ⟨n, d, fun i => if h : i < n then (h2 i h).choose else .bool false, h1.congr fun i hi => ?_, fun i hi => ?_⟩
  · simp only [dif_pos hi]; exact (h2 i hi).choose_spec.1
  · simp only [dif_pos hi]; exact (h2 i hi).choose_spec.2
variable {d : DataW H} {ps : List MemPlace}
/-- A structure's value is its cells. -/
theorem agg_of {W : World} {r : Reach} {b0 : Nat} {t : TypeId} {fs : Array Field} (ht : prog.underlying t = some (.struct fs)) {v : Value} (h : Value.okWide prog W r b0 t v) : ∃ cs : Array Value, v = .agg cs := by
  simp only [Value.okWide, ht] at h
  obtain ⟨cs, e, _⟩ := h
  exact ⟨cs, e⟩
theorem game_arg {r : Reach} {b0 : Nat} {v : Value} (hval : Value.okWide prog w r b0 105 v) (h : DataW.Trod enc prog w base spare held 105 v d ps) :
    ∃ (g : GmD) (ad : Option Addr) (kc : Nat), v = g.val (.slice ad g.k kc) ∧ IsLines w (.slice ad g.k kc) g.l g.k := by
  obtain ⟨⟨cs⟩, rfl⟩ := agg_of x105 hval
  obtain ⟨fuel, hf⟩ := h
  obtain ⟨g, lv, e, hl⟩ := game_open (show DataW.trod enc prog w base spare held fuel 105 cs = some _ from hf)
  obtain ⟨ad, kc, e2, -⟩ := Row.slice hl
  subst e e2
  exact ⟨g, ad, kc, rfl, hl⟩
theorem games_arg {r : Reach} {b0 : Nat} {v : Value} (hval : Value.okWide prog w r b0 22 v) (h : DataW.Trod enc prog w base spare held 22 v d ps) : ∃ (n : Nat) (g : Nat → GmD), IsGames w v g n := by
  simp only [Value.okWide, Cell.okWide, x22] at hval
  obtain ⟨fuel, hf⟩ := h
  cases v with
  | agg cs => simp_all [Cell.ok]
  | _ => exact games_open (show DataW.trod enc prog w base spare held fuel 22 [_] = some _ from hf)
end
end Go.Proofs.Tryz

namespace Go.Proofs.Tryz
open Go Go.Am Go.RowKit Go.Op
set_option maxRecDepth 100000

theorem LnD.arr_eq (x : LnD) : x.cells.toArray = x.arr := by rw [← LnD.arr_cells, Array.toArray_toList]
theorem GmD.arr_eq (g : GmD) (lv : Value) : (g.cells lv).toArray = g.arr lv := rfl
theorem LnD.one (x : LnD) : ∀ u ∈ x.cells, u.oneCell' = true := fun u hu => by
  simp only [LnD.cells, ints, List.mem_cons, List.mem_map] at hu
  rcases hu with rfl | rfl | ⟨_, _, rfl⟩ <;> rfl
theorem GmD.one (g : GmD) (a : Option Addr) (k c : Nat) : ∀ u ∈ g.cells (.slice a k c), u.oneCell' = true := fun u hu => by
  simp only [GmD.cells, List.mem_cons, List.not_mem_nil, or_false] at hu
  rcases hu with rfl | rfl | rfl | rfl | rfl | rfl | rfl | rfl <;> rfl
theorem OwnRow.setCell {w : World} {base e m : Nat} {v : Value} {l : List (List Value)} (h : OwnRow w base e m v l) {b e' : Nat} {cs : Array Value} (ha : At w b cs e') (hne : e ≠ e') (i : Nat) (u : Value) : OwnRow (w.setCell ⟨b, i, none⟩ u) base e m v l := by
  refine ⟨h.1.kept (row := some b) ⟨rfl, rfl, rfl, by simp, fun k _ hk => Below.heap_setCell _ _ _ _ (fun e => hk (by rw [e]))⟩ ?_, h.2⟩
  cases hb : v.ownBlock with
  | none => exact .inl rfl
  | some q =>
    refine .inr fun e3 => ?_
    obtain ⟨c, fz, hc⟩ := Lib.ownsRow_kind h.1 q hb
    simp only [Option.some.injEq] at e3
    subst e3
    unfold At at ha
    rw [ha] at hc
    simp only [Option.some.injEq, Obj.cells.injEq] at hc
    exact hne hc.2.1.symm
theorem run_sliceL (w : World) (x : LnD) : (Instr.buildSlice 108 1 #[(0, .agg x.arr)]).run prog w = .ok (.slice (some ⟨w.heap.size, 0, none⟩) 1 1) (w.alloc (.cells x.arr 132)) := by unfold LnD.arr; simp [go_sem]
theorem run_sliceLR (w : World) (x : LnD) : (Instr.buildSlice 103 1 #[(0, .agg x.arr)]).run prog w = .ok (.slice (some ⟨w.heap.size, 0, none⟩) 1 1) (w.alloc (.cells x.arr 151)) := by unfold LnD.arr; simp [go_sem]
theorem run_sliceG (w : World) (g : GmD) (a : Option Addr) (k c : Nat) : (Instr.buildSlice 29 1 #[(0, .agg (g.arr (.slice a k c)))]).run prog w = .ok (.slice (some ⟨w.heap.size, 0, none⟩) 1 1) (w.alloc (.cells (g.arr (.slice a k c)) 110)) := by unfold GmD.arr; simp [go_sem]
theorem run_sliceGR (w : World) (g : GmD) (a : Option Addr) (k c : Nat) : (Instr.buildSlice 22 1 #[(0, .agg (g.arr (.slice a k c)))]).run prog w = .ok (.slice (some ⟨w.heap.size, 0, none⟩) 1 1) (w.alloc (.cells (g.arr (.slice a k c)) 105)) := by unfold GmD.arr; simp [go_sem]

set_option maxHeartbeats 3200000 in
theorem own_w {g : Nat → GmD} {n : Nat} {v : Value} {w : World} (h : IsGames w v g n) (hn : n ≤ 1000) (hk : ∀ i, i < n → (g i).k ≤ 1000) :
    Calls prog 20 #[v] w fun e w' => (∃ u, e = .returned u ∧ OwnGames w' w.heap.size 110 132 u g n) ∧ Below w.heap.size w w' := by
  obtain ⟨iG, TG⟩ := elG
  obtain ⟨iL, TL⟩ := elL
  have HT := Lib.hid (And.intro TG TL)
  clear TG TL
  have h0 := h
  obtain ⟨lv0, hr, -⟩ := h0
  obtain ⟨ad, c, rfl, hnc⟩ := hr.slice
  have hs0 : OwnGames w w.heap.size 110 132 (.slice none 0 0) g 0 := OwnGames.start _ _ _ _ _
  clear hr
  go_enter func20, ntmps20
  go_wp2_with fail
  go_loopw [3, 11] (fun t s wr => ∃ i : Nat, i ≤ n ∧ s = .int .i64 i ∧ OwnGames wr w.heap.size 110 132 t g i ∧ Below w.heap.size w wr) (fun _ s _ => n - (numOf' s).toNat)
  case atStart => exact ⟨0, Nat.zero_le _, rfl, hs0, Below.refl _ _⟩
  case round =>
    clear hs0
    obtain ⟨i, hi, rfl, hl, hb⟩ := hrel
    obtain ⟨wq, rfl⟩ : ∃ W : World, W = wr := ⟨_, rfl⟩
    by_cases hin : i < n
    · obtain ⟨b, off, c1, a1, kc, e, -, hli, p0, p1, p2, p3, p4, p5, p6, p7⟩ := (h.below hb).at hin
      simp only [Value.slice.injEq, true_and] at e
      obtain ⟨rfl, rfl⟩ := e
      have hii : (i : Int) < (n : Int) := by omega
      have hki := hk i hin
      have hb1 : Below wq.heap.size wq (wq.alloc (.cells ((g i).arr (.slice a1 (g i).k kc)) 105)) := (Below.refl _ _).alloc (Nat.le_refl _) _
      have hb2 : Below wq.heap.size wq ((wq.alloc (.cells ((g i).arr (.slice a1 (g i).k kc)) 105)).alloc (.cells ((g i).arr (.slice none 0 0)) 110)) := hb1.alloc hb1.size _
      have hx1 := at_new wq ((g i).arr (.slice a1 (g i).k kc)) 105
      have hx2 := hx1.alloc (.cells ((g i).arr (.slice none 0 0)) 110)
      have hy : At ((wq.alloc (.cells ((g i).arr (.slice a1 (g i).k kc)) 105)).alloc (.cells ((g i).arr (.slice none 0 0)) 110)) (wq.heap.size + 1) ((g i).arr (.slice none 0 0)) 110 := by
        have := at_new (wq.alloc (.cells ((g i).arr (.slice a1 (g i).k kc)) 105)) ((g i).arr (.slice none 0 0)) 110
        simpa using this
      have hsz : wq.heap.size + 2 ≤ ((wq.alloc (.cells ((g i).arr (.slice a1 (g i).k kc)) 105)).alloc (.cells ((g i).arr (.slice none 0 0)) 110)).heap.size := by simp
      unfold GmD.arr at hx1 hx2
      obtain ⟨⟨x0, x1, x2, x3, x4, x5, x6, x7⟩, -⟩ := box8 hx1
      obtain ⟨⟨y0, y1, y2, y3, y4, y5, y6, y7⟩, -⟩ := box8 hx2
      obtain ⟨W2, hW⟩ : ∃ W2, (wq.alloc (.cells ((g i).arr (.slice a1 (g i).k kc)) 105)).alloc (.cells ((g i).arr (.slice none 0 0)) 110) = W2 := ⟨_, rfl⟩
      rw [hW] at hb2 hy hsz
      unfold GmD.arr at hW
      rw [hW] at y0 y1 y2 y3 y4 y5 y6 y7
      have hyu := hy
      unfold GmD.arr at hyu
      obtain ⟨⟨z0, z1, z2, z3, z4, z5, z6, z7⟩, f0, f1, f2, f3, f4, f5, f6, f7⟩ := box8 hyu
      have hL0 : OwnLines W2 (wq.heap.size + 2) 132 (.slice none 0 0) (g i).l 0 := OwnLines.start _ _ _ _
      have hszw := hb.size
      clear hb1 hx1 hx2 hyu
      go_wp2_with fail
      try rw [hW]
      clear hW p0 p1 p2 p3 p4 p5 p6 p7 x0 x1 x2 x3 x4 x5 x6 x7 y0 y1 y2 y3 y4 y5 y6 y7 z0 z1 z2 z3 z4 z5 z6 z7 f0 f1 f2 f3 f4 f5 f6 f7
      go_loopw [29] (fun s wx => ∃ (j : Nat) (va : Option Addr) (vk vc : Nat), j ≤ (g i).k ∧ s = .int .i64 j ∧ OwnLines wx (wq.heap.size + 2) 132 (.slice va vk vc) (g i).l j ∧ At wx (wq.heap.size + 1) ((g i).arr (.slice va vk vc)) 110 ∧ Below wq.heap.size wq wx ∧ wq.heap.size + 2 ≤ wx.heap.size) (fun s _ => (g i).k - (numOf' s).toNat)
      case atStart => exact ⟨0, none, 0, 0, Nat.zero_le _, rfl, OwnLines.start _ _ _ _, hy.set 7 _, hb2.setCell (p := ⟨wq.heap.size + 1, 7, none⟩) (by simp) _, by simpa using hsz⟩
      case round =>
        clear hL0 hy hb2 hsz
        obtain ⟨j, va, vk, vc, hj, rfl, hL, hy, hb2, hsz⟩ := hrel
        unfold GmD.arr at hy
        obtain ⟨⟨y0, y1, y2, y3, y4, y5, y6, y7⟩, f0, f1, f2, f3, f4, f5, f6, f7⟩ := box8 hy
        by_cases hjk : j < (g i).k
        · obtain ⟨b2, off2, c2, e2, hk2, q0, q1, qc⟩ := (hli.below hb2).at hjk
          simp only [Value.slice.injEq, true_and] at e2
          obtain ⟨rfl, rfl⟩ := e2
          have hc0 := qc 0 (by omega)
          have hc1 := qc 1 (by omega)
          have hc2 := qc 2 (by omega)
          have hc3 := qc 3 (by omega)
          have hc4 := qc 4 (by omega)
          have hc5 := qc 5 (by omega)
          have hc6 := qc 6 (by omega)
          have hc7 := qc 7 (by omega)
          have hc8 := qc 8 (by omega)
          have hc9 := qc 9 (by omega)
          have hc10 := qc 10 (by omega)
          have hc11 := qc 11 (by omega)
          simp only [Nat.reduceAdd] at hc0 hc1 hc2 hc3 hc4 hc5 hc6 hc7 hc8 hc9 hc10 hc11
          have hjj : (j : Int) < ((g i).k : Int) := by omega
          have hb5 : Below wr.heap.size wr (wr.alloc (.cells ((g i).l j).arr 151)) := (Below.refl _ _).alloc (Nat.le_refl _) _
          have hz5 := at_new wr ((g i).l j).arr 151
          obtain ⟨W5, hW5⟩ : ∃ W5, wr.alloc (.cells ((g i).l j).arr 151) = W5 := ⟨_, rfl⟩
          rw [hW5] at hb5 hz5
          have hy5 := hy.below hb5 hy.lt
          have hL5 := hL.below hb5
          have hb25 := hb2.trans (hb5.mono hb2.size)
          have hsz5 := Nat.le_trans hsz hb5.size
          obtain ⟨⟨u0, u1, u2, u3, u4, u5, u6, u7⟩, g0, g1, g2, g3, g4, g5, g6, g7⟩ := box8 hy5
          obtain ⟨z0, z1, z2, z3, z4, z5, z6, z7, z8, z9, z10, z11, z12, z13⟩ := box14 hz5
          unfold LnD.arr at hW5
          clear qc hy hL hb2 hsz hb5 hz5 f0 f1 f2 f3 f4 f5 f6 f7 y0 y1 y2 y3 y4 y5 y6
          go_wp2_with (first
            | (with_reducible refine haltR ?_)
            | fail)
          unfold Halt
          try rw [hW5]
          clear hW5 q0 q1 hc0 hc1 hc2 hc3 hc4 hc5 hc6 hc7 hc8 hc9 hc10 hc11 u0 u1 u2 u3 u4 u5 u6 u7 g0 g1 g2 g3 g4 g5 g6 g7 z0 z1 z2 z3 z4 z5 z6 z7 z8 z9 z10 z11 z12 z13 y7
          have hal := fun o => (Below.refl W5.heap.size W5).alloc (Nat.le_refl _) o
          refine wpList_sliceR (fun w => run_sliceL w ((g i).l j)) _ rfl _ rfl rfl ?_
          refine wpList_appendR HT.out.2 _ rfl _ _ rfl (wq.heap.size + 2) _ (linesL (g i).l j) _ rfl 1 rfl (hL5.below (hal _)) (by rw [linesL_len]; omega) ((g i).l j).cells (LnD.len _) (LnD.one _) ?hat ?c2 ?_
          case hat => rw [LnD.arr_eq]; exact at_new _ _ _
          case c2 => exact Nat.le_trans hsz5 (hal _).size
          intro a9 k9 c9 w9 hA
          have hL9 := OwnLines.more hA
          have hy9 : At w9 (wq.heap.size + 1) #[.string (bA (g i).nm), .int .i64 (g i).ver, .int .i64 (g i).day, .string (bA (g i).t0), .string (bA (g i).t1), .int .i64 (g i).s0, .int .i64 (g i).s1, .slice va vk vc] 110 := by
            have := hy5.below (hal (.cells ((g i).l j).arr 132)) hy5.lt
            unfold At at this ⊢
            rw [hA.old _ (by omega) (lt_of_block this)]; exact this
          have hb9 := hA.below wq (hb25.trans ((hal _).mono hb25.size)) (by omega)
          have hsz9 := Nat.le_trans hsz5 (Nat.le_trans (hal (.cells ((g i).l j).arr 132)).size hA.size)
          have hL10 : ∀ u, OwnLines (w9.setCell ⟨wq.heap.size + 1, 7, none⟩ u) (wq.heap.size + 2) 132 (.slice a9 k9 c9) (g i).l (j + 1) := fun u => OwnRow.setCell hL9 hy9 (by decide) _ _
          have hy10 := hy9.set 7 (.slice a9 k9 c9)
          have hb10 := fun u => hb9.setCell (p := ⟨wq.heap.size + 1, 7, none⟩) (by simp) u
          have hsz10 : ∀ u, wq.heap.size + 2 ≤ (w9.setCell ⟨wq.heap.size + 1, 7, none⟩ u).heap.size := fun u => by simpa using hsz9
          obtain ⟨⟨y0, y1, y2, y3, y4, y5, y6, y7⟩, f0, f1, f2, f3, f4, f5, f6, f7⟩ := box8 hy9
          clear hA hL9 hy5 hL5 hb25 hsz5 hal hb9 hsz9 hy9
          go_wp2_with fail
          go_roundw
          case rel => exact ⟨j + 1, _, _, _, by omega, by go_num, hL10 _, hy10, hb10 _, hsz10 _⟩
          case measure => simp [numOf'] <;> omega
        · obtain rfl : j = (g i).k := by omega
          obtain ⟨lvs, hG1, hG2⟩ := hl
          have hal := fun o => (Below.refl wr.heap.size wr).alloc (Nat.le_refl _) o
          have hbx := hb.trans (hb2.mono hb.size)
          go_wp2_with (first
            | (with_reducible refine haltR ?_)
            | fail)
          unfold Halt
          refine wpList_sliceR (fun w => run_sliceG w (g i) va vk vc) _ rfl _ rfl rfl ?_
          refine wpList_appendR HT.out.1 _ rfl _ _ rfl w.heap.size _ (gamesL g lvs i) _ rfl 1 rfl ((hG1.below hb2).below (hal _)) (by rw [gamesL_len]; omega) ((g i).cells (.slice va vk vc)) (GmD.len _ _) (GmD.one _ _ _ _) ?hat ?c2 ?_
          case hat => rw [GmD.arr_eq]; exact at_new _ _ _
          case c2 => exact Nat.le_trans hbx.size (hal _).size
          intro a9 k9 c9 w9 hA
          have hG9 := OwnGames.more (by decide) (fun q hq => ((hG2 q hq).below hb2).below (hal _)) ((hL.mono (by omega)).below (hal _)) hA
          have hb9 := hA.below w (hbx.trans ((hal _).mono hbx.size)) (Nat.le_refl _)
          clear hA hG1 hG2 hL hy hal hb2
          go_wp2_with fail
          go_roundw
          case rel => exact ⟨i + 1, by omega, by go_num, hG9, hb9⟩
          case measure => simp [numOf'] <;> omega
    · obtain rfl : i = n := by omega
      clear hk h
      go_wp2_with fail
      go_ret
      exact ⟨⟨_, rfl, hl⟩, hb⟩
end Go.Proofs.Tryz
