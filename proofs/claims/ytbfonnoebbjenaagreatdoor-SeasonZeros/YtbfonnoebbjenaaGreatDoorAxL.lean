/- Lists of games that are built one by one. On the season seat: games that are handed, opened. Plain: totals as lists in order. Plain: leaders, as sorted lists of totals. -/
import Derived.Test.YtbfonnoebbjenaaGreatDoorAxG
namespace Go.Proofs.Tryz
open Go Go.Am Go.RowKit Go.Op
set_option maxRecDepth 100000

def linesL (l : Nat → LnD) (k : Nat) : List (List Value) := (List.range k).map fun i => (l i).cells
theorem linesL_len (l : Nat → LnD) (k : Nat) : (linesL l k).length = k := by simp [linesL]
theorem linesL_snoc (l : Nat → LnD) (k : Nat) : linesL l (k + 1) = linesL l k ++ [(l k).cells] := by unfold linesL; rw [List.range_succ, List.map_append]; rfl
def gamesL (g : Nat → GmD) (lv : Nat → Value) (n : Nat) : List (List Value) := (List.range n).map fun i => (g i).cells (lv i)
theorem gamesL_len (g : Nat → GmD) (lv : Nat → Value) (n : Nat) : (gamesL g lv n).length = n := by simp [gamesL]
theorem info_more {e : TypeId} {z : Value} {s b : Nat} (h : (prog.info? e).map (fun i => (i.zero, i.size, i.bytes)) = some (some z, s, b)) : ∃ i, prog.info? e = some i ∧ i.zero = some z ∧ i.size = s ∧ i.bytes = b := by
  cases hi : prog.info? e with
  | none => rw [hi] at h; cases h
  | some i => rw [hi] at h; simp only [Option.map_some, Option.some.injEq, Prod.mk.injEq] at h; exact ⟨i, rfl, h.1, h.2.1, h.2.2⟩
/-- Lines in a row of the call's own. -/
def OwnLines (w : World) (base eL : Nat) (v : Value) (l : Nat → LnD) (k : Nat) : Prop := OwnRow w base eL 14 v (linesL l k)
theorem OwnLines.start (w : World) (base eL : Nat) (l : Nat → LnD) : OwnLines w base eL (.slice none 0 0) l 0 := OwnRow.start _ _ _ _
theorem OwnLines.below {w W : World} {base eL : Nat} {v : Value} {l : Nat → LnD} {k : Nat} (h : OwnLines w base eL v l k) (hb : Below w.heap.size w W) : OwnLines W base eL v l k := OwnRow.below h hb
theorem OwnLines.mono {w : World} {base b2 eL : Nat} {v : Value} {l : Nat → LnD} {k : Nat} (h : OwnLines w base eL v l k) (hb : b2 ≤ base) : OwnLines w b2 eL v l k := OwnRow.mono h hb
theorem OwnLines.is {w : World} {base eL : Nat} {v : Value} {l : Nat → LnD} {k : Nat} (h : OwnLines w base eL v l k) : IsLines w v l k := by
  have h2 := OwnRow.row h
  rw [linesL_len] at h2
  exact h2.congr fun i hi => by simp [linesL, hi]
theorem OwnLines.more {w w' : World} {base eL : Nat} {v u : Value} {l : Nat → LnD} {k : Nat} (hA : AppR w w' base eL 14 (linesL l k) (l k).cells v u) : OwnLines w' base eL u l (k + 1) := by
  unfold OwnLines
  rw [linesL_snoc]
  exact hA.row
/-- Games in a row of the call's own, their lines too. -/
def OwnGames (w : World) (base e eL : Nat) (v : Value) (g : Nat → GmD) (n : Nat) : Prop := ∃ lv : Nat → Value, OwnRow w base e 8 v (gamesL g lv n) ∧ ∀ i, i < n → OwnLines w base eL (lv i) (g i).l (g i).k
theorem OwnGames.start (w : World) (base e eL : Nat) (g : Nat → GmD) : OwnGames w base e eL (.slice none 0 0) g 0 := ⟨fun _ => .bool false, OwnRow.start _ _ _ _, fun _ h => absurd h (Nat.not_lt_zero _)⟩
theorem OwnGames.is {w : World} {base e eL : Nat} {v : Value} {g : Nat → GmD} {n : Nat} (h : OwnGames w base e eL v g n) : IsGames w v g n := by
  obtain ⟨lv, h1, h2⟩ := h
  refine ⟨lv, ?_, fun i hi => (h2 i hi).is⟩
  have h3 := h1.row
  rw [gamesL_len] at h3
  exact h3.congr fun i hi => by simp [gamesL, hi]
theorem OwnGames.slice {w : World} {base e eL : Nat} {v : Value} {g : Nat → GmD} {n : Nat} (h : OwnGames w base e eL v g n) : ∃ a c, v = .slice a n c := by
  obtain ⟨lv, h1, -⟩ := h
  obtain ⟨a, c, e⟩ := h1.slice
  rw [gamesL_len] at e
  exact ⟨a, c, e⟩
theorem OwnGames.more {w w' : World} {base e eL : Nat} {v u lvn : Value} {g : Nat → GmD} {n : Nat} {lv : Nat → Value} (hne : eL ≠ e) (hl : ∀ i, i < n → OwnLines w base eL (lv i) (g i).l (g i).k) (hn : OwnLines w base eL lvn (g n).l (g n).k)
    (hA : AppR w w' base e 8 (gamesL g lv n) ((g n).cells lvn) v u) : OwnGames w' base e eL u g (n + 1) := by
  obtain ⟨k, xs, hu, hg⟩ := hA.grown
  refine ⟨fun i => if i = n then lvn else lv i, ?_, fun i hi => ?_⟩
  · have e1 : gamesL g (fun i => if i = n then lvn else lv i) (n + 1) = gamesL g lv n ++ [(g n).cells lvn] := by
      unfold gamesL
      rw [List.range_succ, List.map_append]
      congr 1
      · exact List.map_congr_left fun i hi => by have := List.mem_range.1 hi; simp only [if_neg (show ¬ i = n by omega)]
      · simp
    rw [e1]
    exact hA.row
  · by_cases h : i = n
    · subst h
      simp only [if_pos]
      exact OwnRow.grown hn hu hne hg
    · simp only [if_neg h]
      exact OwnRow.grown (hl i (by omega)) hu hne hg
theorem infoG : (prog.info? 110).map (fun i => (i.zero, i.size, i.bytes)) = some (some (.agg #[.string ⟨#[]⟩, .int .i64 0, .int .i64 0, .string ⟨#[]⟩, .string ⟨#[]⟩, .int .i64 0, .int .i64 0, .slice none 0 0]), 8, 104) := by kernel_rfl
theorem infoGR : (prog.info? 105).map (fun i => (i.zero, i.size, i.bytes)) = some (some (.agg #[.string ⟨#[]⟩, .int .i64 0, .int .i64 0, .string ⟨#[]⟩, .string ⟨#[]⟩, .int .i64 0, .int .i64 0, .slice none 0 0]), 8, 104) := by kernel_rfl
theorem infoL : (prog.info? 132).map (fun i => (i.zero, i.size, i.bytes)) = some (some (.agg #[.string ⟨#[]⟩, .string ⟨#[]⟩, .int .i64 0, .int .i64 0, .int .i64 0, .int .i64 0, .int .i64 0, .int .i64 0, .int .i64 0, .int .i64 0, .int .i64 0, .int .i64 0, .int .i64 0, .int .i64 0]), 14, 128) := by kernel_rfl
theorem elG : ∃ i, ElT 29 110 8 i (.agg #[.string ⟨#[]⟩, .int .i64 0, .int .i64 0, .string ⟨#[]⟩, .string ⟨#[]⟩, .int .i64 0, .int .i64 0, .slice none 0 0]) 104 := by
  obtain ⟨i, hi, hz0, hz1, hz2⟩ := info_more infoG
  exact ⟨i, by kernel_rfl, hi, hz0, hz1, hz2, rfl, by decide, by decide⟩
theorem elGR : ∃ i, ElT 22 105 8 i (.agg #[.string ⟨#[]⟩, .int .i64 0, .int .i64 0, .string ⟨#[]⟩, .string ⟨#[]⟩, .int .i64 0, .int .i64 0, .slice none 0 0]) 104 := by
  obtain ⟨i, hi, hz0, hz1, hz2⟩ := info_more infoGR
  exact ⟨i, by kernel_rfl, hi, hz0, hz1, hz2, rfl, by decide, by decide⟩
theorem elL : ∃ i, ElT 108 132 14 i (.agg #[.string ⟨#[]⟩, .string ⟨#[]⟩, .int .i64 0, .int .i64 0, .int .i64 0, .int .i64 0, .int .i64 0, .int .i64 0, .int .i64 0, .int .i64 0, .int .i64 0, .int .i64 0, .int .i64 0, .int .i64 0]) 128 := by
  obtain ⟨i, hi, hz0, hz1, hz2⟩ := info_more infoL
  exact ⟨i, by kernel_rfl, hi, hz0, hz1, hz2, rfl, by decide, by decide⟩
end Go.Proofs.Tryz

namespace Go.Proofs.Tryz
open Go Go.Am Go.ChangeShapes Go.WideShapes Go.ChangeAt Go.RowKit
set_option maxRecDepth 100000

noncomputable def fs151 : Array Field := match prog.underlying 151 with | some (.struct fs) => fs | _ => #[]
noncomputable def fs105 : Array Field := match prog.underlying 105 with | some (.struct fs) => fs | _ => #[]
theorem x9 : prog.underlying 9 = some .string := by kernel_rfl
theorem x3 : prog.underlying 3 = some (.int .i64) := by kernel_rfl
theorem x54 : prog.underlying 54 = some (.array 12 3) := by kernel_rfl
theorem x82 : prog.underlying 82 = some (.array 2 9) := by kernel_rfl
theorem x102 : prog.underlying 102 = some (.array 2 3) := by kernel_rfl
theorem x103 : prog.underlying 103 = some (.slice 151) := by kernel_rfl
theorem x22 : prog.underlying 22 = some (.slice 105) := by kernel_rfl
theorem x151 : prog.underlying 151 = some (.struct fs151) := by kernel_rfl
theorem x105 : prog.underlying 105 = some (.struct fs105) := by kernel_rfl
theorem xn151 : fs151.size = 3 := by kernel_rfl
theorem xn105 : fs105.size = 6 := by kernel_rfl
theorem xt151 : (fs151.toList.map fun f => (f.type, f.offset)) = [(9, 0), (9, 1), (54, 2)] := by kernel_rfl
theorem xt105 : (fs105.toList.map fun f => (f.type, f.offset)) = [(9, 0), (3, 1), (3, 2), (82, 3), (102, 5), (103, 7)] := by kernel_rfl
theorem xc9 : prog.cellsOf 9 = 1 := by kernel_rfl
theorem xc3 : prog.cellsOf 3 = 1 := by kernel_rfl
theorem xc54 : prog.cellsOf 54 = 12 := by kernel_rfl
theorem xc82 : prog.cellsOf 82 = 2 := by kernel_rfl
theorem xc102 : prog.cellsOf 102 = 2 := by kernel_rfl
theorem xc103 : prog.cellsOf 103 = 1 := by kernel_rfl
theorem xc151 : prog.cellsOf 151 = 14 := by kernel_rfl
theorem xc105 : prog.cellsOf 105 = 8 := by kernel_rfl
theorem ints_eta2 (f : Nat → Int) : ints 2 f = [.int .i64 (f 0), .int .i64 (f 1)] := rfl
section
variable {H : Type} {enc : TypeId × Value → H} {w : World} {base : Nat} {spare : Nat → Bool} {held : Bool}
theorem line_open {fuel : Nat} {cs : List Value} {x : DataW H × List MemPlace} (h : DataW.trod enc prog w base spare held fuel 151 cs = some x) : ∃ d : LnD, cs = d.cells := by
  obtain ⟨ys, n, _, _, hl, hn, hf⟩ := DataW.trod_struct x151 h
  rw [xc151] at hl
  rw [xn151] at hn
  match cs, hl with
  | v0 :: v1 :: r, hl =>
    match ys, hn with
    | [z0, z1, z2], _ =>
      obtain ⟨f0, a0, b0, d0⟩ := field_at xt151 (i := 0) (t := 9) (o := 0) rfl
      obtain ⟨f1, a1, b1, d1⟩ := field_at xt151 (i := 1) (t := 9) (o := 1) rfl
      obtain ⟨f2, a2, b2, d2⟩ := field_at xt151 (i := 2) (t := 54) (o := 2) rfl
      have k0 := hf 0 f0 a0
      have k1 := hf 1 f1 a1
      have k2 := hf 2 f2 a2
      rw [b0, d0, xc9] at k0
      rw [b1, d1, xc9] at k1
      rw [b2, d2, xc54] at k2
      obtain ⟨p0, e0, _⟩ := DataW.trod_string x9 (show _ = some z0 from k0)
      obtain ⟨p1, e1, _⟩ := DataW.trod_string x9 (show _ = some z1 from k1)
      obtain ⟨c, e2⟩ := arr_int x54 x3 xc3 xc54 (show _ = some z2 from k2)
      simp only [List.length_cons] at hl
      have hr : List.take 12 r = r := List.take_of_length_le (by omega)
      simp only [List.drop_succ_cons, List.drop_zero, List.take_succ_cons, List.take_zero, List.cons.injEq, and_true] at e0 e1 e2
      rw [hr] at e2
      subst e0 e1 e2
      exact ⟨⟨p0.data.toList, p1.data.toList, c⟩, by simp only [LnD.cells, bA_data]⟩
theorem lines_open {fuel : Nat} {v : Value} {x : DataW H × List MemPlace} (h : DataW.trod enc prog w base spare held fuel 103 [v] = some x) : ∃ (k : Nat) (l : Nat → LnD), IsLines w v l k := by
  obtain ⟨k, d, f, h1, h2⟩ := row_open x103 xc151 (by decide) (⟨[], [], fun _ => 0⟩ : LnD) (fun d cs => cs = d.cells) (fun d cs e => by rw [e, LnD.len]) (fun h => line_open h) h
  exact ⟨k, d, h1.congr fun i hi => h2 i hi⟩
theorem game_open {fuel : Nat} {cs : List Value} {x : DataW H × List MemPlace} (h : DataW.trod enc prog w base spare held fuel 105 cs = some x) : ∃ (g : GmD) (lv : Value), cs = g.cells lv ∧ IsLines w lv g.l g.k := by
  obtain ⟨ys, n, _, _, hl, hn, hf⟩ := DataW.trod_struct x105 h
  rw [xc105] at hl
  rw [xn105] at hn
  match cs, hl with
  | [v0, v1, v2, v3, v4, v5, v6, v7], _ =>
    match ys, hn with
    | [z0, z1, z2, z3, z4, z5], _ =>
      obtain ⟨f0, a0, b0, d0⟩ := field_at xt105 (i := 0) (t := 9) (o := 0) rfl
      obtain ⟨f1, a1, b1, d1⟩ := field_at xt105 (i := 1) (t := 3) (o := 1) rfl
      obtain ⟨f2, a2, b2, d2⟩ := field_at xt105 (i := 2) (t := 3) (o := 2) rfl
      obtain ⟨f3, a3, b3, d3⟩ := field_at xt105 (i := 3) (t := 82) (o := 3) rfl
      obtain ⟨f4, a4, b4, d4⟩ := field_at xt105 (i := 4) (t := 102) (o := 5) rfl
      obtain ⟨f5, a5, b5, d5⟩ := field_at xt105 (i := 5) (t := 103) (o := 7) rfl
      have k0 := hf 0 f0 a0
      have k1 := hf 1 f1 a1
      have k2 := hf 2 f2 a2
      have k3 := hf 3 f3 a3
      have k4 := hf 4 f4 a4
      have k5 := hf 5 f5 a5
      rw [b0, d0, xc9] at k0
      rw [b1, d1, xc3] at k1
      rw [b2, d2, xc3] at k2
      rw [b3, d3, xc82] at k3
      rw [b4, d4, xc102] at k4
      rw [b5, d5, xc103] at k5
      obtain ⟨p0, e0, _⟩ := DataW.trod_string x9 (show _ = some z0 from k0)
      obtain ⟨p1, e1, _⟩ := DataW.trod_int x3 (show _ = some z1 from k1)
      obtain ⟨p2, e2, _⟩ := DataW.trod_int x3 (show _ = some z2 from k2)
      obtain ⟨t0, t1, e3⟩ := arr_str2 x82 x9 xc9 xc82 (show _ = some z3 from k3)
      obtain ⟨s, e4⟩ := arr_int x102 x3 xc3 xc102 (show _ = some z4 from k4)
      obtain ⟨k, l, hm⟩ := lines_open (show DataW.trod enc prog w base spare held n 103 [v7] = some z5 from k5)
      rw [ints_eta2] at e4
      simp only [List.drop_succ_cons, List.drop_zero, List.take_succ_cons, List.take_zero, List.cons.injEq, and_true] at e0 e1 e2 e3 e4
      obtain ⟨e3, e3'⟩ := e3
      obtain ⟨e4, e4'⟩ := e4
      subst e0 e1 e2 e3 e3' e4 e4'
      exact ⟨⟨p0.data.toList, p1, p2, t0, t1, s 0, s 1, l, k⟩, v7, by simp only [GmD.cells, bA_data], hm⟩
theorem games_open {fuel : Nat} {v : Value} {x : DataW H × List MemPlace} (h : DataW.trod enc prog w base spare held fuel 22 [v] = some x) : ∃ (n : Nat) (g : Nat → GmD), IsGames w v g n := by
  obtain ⟨n, d, f, h1, h2⟩ := row_open x22 xc105 (by decide) (⟨[], 0, 0, [], [], 0, 0, fun _ => ⟨[], [], fun _ => 0⟩, 0⟩ : GmD) (fun d cs => ∃ lv, cs = d.cells lv ∧ IsLines w lv d.l d.k) (fun d cs e => by obtain ⟨lv, e, -⟩ := e; rw [e, GmD.len]) (fun h => by obtain ⟨g, lv, e⟩ := game_open h; exact ⟨g, lv, e⟩) h
  refine ⟨n, d, fun i => if h : i < n then (h2 i h).choose else .bool false, h1.congr fun i hi => ?_, fun i hi => ?_⟩
  · simp only [dif_pos hi]; exact (h2 i hi).choose_spec.1
  · simp only [dif_pos hi]; exact (h2 i hi).choose_spec.2
variable {d : DataW H} {ps : List MemPlace}
theorem games_arg {r : Reach} {b0 : Nat} {v : Value} (hval : Value.okWide prog w r b0 22 v) (h : DataW.Trod enc prog w base spare held 22 v d ps) : ∃ (n : Nat) (g : Nat → GmD), IsGames w v g n := by
  simp only [Value.okWide, Cell.okWide, x22] at hval
  obtain ⟨fuel, hf⟩ := h
  cases v with
  | agg cs => simp_all [Cell.ok]
  | _ => exact games_open (show DataW.trod enc prog w base spare held fuel 22 [_] = some _ from hf)
end
end Go.Proofs.Tryz

namespace Go.Proofs.Tryz
open Go Go.Am Go.RowKit Go.Op
set_option maxRecDepth 100000

/-! ### bytes in order -/
theorem bl_irrefl : ∀ a : List UInt8, bytesLess a a = false
  | [] => rfl
  | x :: a => by simp [bytesLess, bl_irrefl a]
theorem bl_trans : ∀ {a b c : List UInt8}, bytesLess a b = true → bytesLess b c = true → bytesLess a c = true
  | _, [], _, h, _ => by simp [bytesLess] at h
  | _, _ :: _, [], _, h => by simp [bytesLess] at h
  | [], _ :: _, _ :: _, _, _ => rfl
  | x :: a, y :: b, z :: c, h1, h2 => by
    simp only [bytesLess, Bool.or_eq_true, decide_eq_true_eq, Bool.and_eq_true, beq_iff_eq] at *
    rcases h1 with h1 | ⟨rfl, h1⟩
    · rcases h2 with h2 | ⟨rfl, -⟩
      · exact .inl (UInt8.lt_trans h1 h2)
      · exact .inl h1
    · rcases h2 with h2 | ⟨rfl, h2⟩
      · exact .inl h2
      · exact .inr ⟨rfl, bl_trans h1 h2⟩
theorem bl_tri : ∀ {a b : List UInt8}, bytesLess a b = false → bytesLess b a = false → a = b
  | [], [], _, _ => rfl
  | [], _ :: _, h, _ => by simp [bytesLess] at h
  | _ :: _, [], _, h => by simp [bytesLess] at h
  | x :: a, y :: b, h1, h2 => by
    simp only [bytesLess, Bool.or_eq_false_iff, decide_eq_false_iff_not, Bool.and_eq_false_iff] at *
    have e : x = y := by
      apply UInt8.toNat_inj.1
      have := h1.1; have := h2.1
      simp only [UInt8.lt_iff_toNat_lt] at *
      omega
    subst e
    rw [bl_tri (a := a) (b := b) (by rcases h1.2 with h | h; simp at h; exact h) (by rcases h2.2 with h | h; simp at h; exact h)]
theorem bl_asymm {a b : List UInt8} (h : bytesLess a b = true) : bytesLess b a = false := by
  cases h2 : bytesLess b a with
  | false => rfl
  | true => have := bl_trans h h2; rw [bl_irrefl] at this; cases this
/-! ### totals -/
structure Tot where
  p : List UInt8
  gm : Int
  c : Nat → Int
/-- Counts alike from the place i on. -/
def allEq (c d : Nat → Int) : Nat → Nat → Bool
  | _, 0 => true
  | i, n + 1 => (c i == d i) && allEq c d (i + 1) n
/-- A total of nothing. -/
def nzT (t : Tot) : Bool := !((t.gm == 0) && allEq t.c (fun _ => 0) 0 12)
end Go.Proofs.Tryz

namespace Go.Proofs.Tryz
open Go Go.Am Go.RowKit Go.Op
set_option maxRecDepth 100000

/-- One rate is at most the other one. -/
def leR (i k : Nat) (a b : Tot) : Prop := a.c i * b.c k ≤ b.c i * a.c k
instance (i k : Nat) (a b : Tot) : Decidable (leR i k a b) := inferInstanceAs (Decidable (_ ≤ _))
/-! ### places -/
/-! ### what is handed back -/
end Go.Proofs.Tryz
