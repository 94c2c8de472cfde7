/- Lists of games that are built one by one. -/
import Derived.Test.YtbfonnoebbjenaaGreatDoorAxG
namespace Go.Proofs.Tryz
open Go Go.Am Go.RowKit Go.Op
set_option maxRecDepth 100000

def linesL (l : Nat → LnD) (k : Nat) : List (List Value) := (List.range k).map fun i => (l i).cells
theorem linesL_len (l : Nat → LnD) (k : Nat) : (linesL l k).length = k := by simp [linesL]
theorem linesL_snoc (l : Nat → LnD) (k : Nat) : linesL l (k + 1) = linesL l k ++ [(l k).cells] := by unfold linesL; rw [List.range_succ, List.map_append]; rfl
def gamesL (g : Nat → GmD) (lv : Nat → Value) (n : Nat) : List (List Value) := (List.range n).map fun i => (g i).cells (lv i)
theorem gamesL_len (g : Nat → GmD) (lv : Nat → Value) (n : Nat) : (gamesL g lv n).length = n := by simp [gamesL]
theorem info_more {e : TypeId} {z : Value} {s b : Nat} (h : (prog.info? e).map (fun i => (i.zero, i.size, i.bytes)) = some (some z, s, b)) : ∃ i, prog.info? e = some i ∧ i.zero = some z ∧ i.size = s ∧ i.bytes = b := by
  cases hi : prog.info? e with
  | none => rw [hi] at h; cases h
  | some i => rw [hi] at h; simp only [Option.map_some, Option.some.injEq, Prod.mk.injEq] at h; exact ⟨i, rfl, h.1, h.2.1, h.2.2⟩
/-- Lines in a row of the call's own. -/
def OwnLines (w : World) (base eL : Nat) (v : Value) (l : Nat → LnD) (k : Nat) : Prop := OwnRow w base eL 14 v (linesL l k)
theorem OwnLines.start (w : World) (base eL : Nat) (l : Nat → LnD) : OwnLines w base eL (.slice none 0 0) l 0 := OwnRow.start _ _ _ _
theorem OwnLines.below {w W : World} {base eL : Nat} {v : Value} {l : Nat → LnD} {k : Nat} (h : OwnLines w base eL v l k) (hb : Below w.heap.size w W) : OwnLines W base eL v l k := OwnRow.below h hb
theorem OwnLines.mono {w : World} {base b2 eL : Nat} {v : Value} {l : Nat → LnD} {k : Nat} (h : OwnLines w base eL v l k) (hb : b2 ≤ base) : OwnLines w b2 eL v l k := OwnRow.mono h hb
theorem OwnLines.is {w : World} {base eL : Nat} {v : Value} {l : Nat → LnD} {k : Nat} (h : OwnLines w base eL v l k) : IsLines w v l k := by
  have h2 := OwnRow.row h
  rw [linesL_len] at h2
  exact h2.congr fun i hi => by simp [linesL, hi]
theorem OwnLines.slice {w : World} {base eL : Nat} {v : Value} {l : Nat → LnD} {k : Nat} (h : OwnLines w base eL v l k) : ∃ a c, v = .slice a k c := by
  obtain ⟨a, c, e⟩ := OwnRow.slice h
  rw [linesL_len] at e
  exact ⟨a, c, e⟩
theorem OwnLines.more {w w' : World} {base eL : Nat} {v u : Value} {l : Nat → LnD} {k : Nat} (hA : AppR w w' base eL 14 (linesL l k) (l k).cells v u) : OwnLines w' base eL u l (k + 1) := by
  unfold OwnLines
  rw [linesL_snoc]
  exact hA.row
/-- Games in a row of the call's own, their lines too. -/
def OwnGames (w : World) (base e eL : Nat) (v : Value) (g : Nat → GmD) (n : Nat) : Prop := ∃ lv : Nat → Value, OwnRow w base e 8 v (gamesL g lv n) ∧ ∀ i, i < n → OwnLines w base eL (lv i) (g i).l (g i).k
theorem OwnGames.start (w : World) (base e eL : Nat) (g : Nat → GmD) : OwnGames w base e eL (.slice none 0 0) g 0 := ⟨fun _ => .bool false, OwnRow.start _ _ _ _, fun _ h => absurd h (Nat.not_lt_zero _)⟩
theorem OwnGames.below {w W : World} {base e eL : Nat} {v : Value} {g : Nat → GmD} {n : Nat} (h : OwnGames w base e eL v g n) (hb : Below w.heap.size w W) : OwnGames W base e eL v g n :=
  let ⟨lv, h1, h2⟩ := h; ⟨lv, h1.below hb, fun i hi => (h2 i hi).below hb⟩
theorem OwnGames.mono {w : World} {base b2 e eL : Nat} {v : Value} {g : Nat → GmD} {n : Nat} (h : OwnGames w base e eL v g n) (hb : b2 ≤ base) : OwnGames w b2 e eL v g n :=
  let ⟨lv, h1, h2⟩ := h; ⟨lv, h1.mono hb, fun i hi => (h2 i hi).mono hb⟩
theorem OwnGames.is {w : World} {base e eL : Nat} {v : Value} {g : Nat → GmD} {n : Nat} (h : OwnGames w base e eL v g n) : IsGames w v g n := by
  obtain ⟨lv, h1, h2⟩ := h
  refine ⟨lv, ?_, fun i hi => (h2 i hi).is⟩
  have h3 := h1.row
  rw [gamesL_len] at h3
  exact h3.congr fun i hi => by simp [gamesL, hi]
theorem OwnGames.slice {w : World} {base e eL : Nat} {v : Value} {g : Nat → GmD} {n : Nat} (h : OwnGames w base e eL v g n) : ∃ a c, v = .slice a n c := by
  obtain ⟨lv, h1, -⟩ := h
  obtain ⟨a, c, e⟩ := h1.slice
  rw [gamesL_len] at e
  exact ⟨a, c, e⟩
theorem OwnGames.more {w w' : World} {base e eL : Nat} {v u lvn : Value} {g : Nat → GmD} {n : Nat} {lv : Nat → Value} (hne : eL ≠ e) (hl : ∀ i, i < n → OwnLines w base eL (lv i) (g i).l (g i).k) (hn : OwnLines w base eL lvn (g n).l (g n).k)
    (hA : AppR w w' base e 8 (gamesL g lv n) ((g n).cells lvn) v u) : OwnGames w' base e eL u g (n + 1) := by
  obtain ⟨k, xs, hu, hg⟩ := hA.grown
  refine ⟨fun i => if i = n then lvn else lv i, ?_, fun i hi => ?_⟩
  · have e1 : gamesL g (fun i => if i = n then lvn else lv i) (n + 1) = gamesL g lv n ++ [(g n).cells lvn] := by
      unfold gamesL
      rw [List.range_succ, List.map_append]
      congr 1
      · exact List.map_congr_left fun i hi => by have := List.mem_range.1 hi; simp only [if_neg (show ¬ i = n by omega)]
      · simp
    rw [e1]
    exact hA.row
  · by_cases h : i = n
    · subst h
      simp only [if_pos]
      exact OwnRow.grown hn hu hne hg
    · simp only [if_neg h]
      exact OwnRow.grown (hl i (by omega)) hu hne hg
theorem IsGames.congr {w : World} {v : Value} {g h : Nat → GmD} {n : Nat} (H : IsGames w v g n) (e : ∀ i, i < n → g i = h i) : IsGames w v h n := by
  obtain ⟨lv, h1, h2⟩ := H
  exact ⟨lv, h1.congr fun i hi => by rw [e i hi], fun i hi => by rw [← e i hi]; exact h2 i hi⟩
theorem infoG : (prog.info? 110).map (fun i => (i.zero, i.size, i.bytes)) = some (some (.agg #[.string ⟨#[]⟩, .int .i64 0, .int .i64 0, .string ⟨#[]⟩, .string ⟨#[]⟩, .int .i64 0, .int .i64 0, .slice none 0 0]), 8, 104) := by kernel_rfl
theorem infoGR : (prog.info? 105).map (fun i => (i.zero, i.size, i.bytes)) = some (some (.agg #[.string ⟨#[]⟩, .int .i64 0, .int .i64 0, .string ⟨#[]⟩, .string ⟨#[]⟩, .int .i64 0, .int .i64 0, .slice none 0 0]), 8, 104) := by kernel_rfl
theorem infoL : (prog.info? 132).map (fun i => (i.zero, i.size, i.bytes)) = some (some (.agg #[.string ⟨#[]⟩, .string ⟨#[]⟩, .int .i64 0, .int .i64 0, .int .i64 0, .int .i64 0, .int .i64 0, .int .i64 0, .int .i64 0, .int .i64 0, .int .i64 0, .int .i64 0, .int .i64 0, .int .i64 0]), 14, 128) := by kernel_rfl
theorem infoLR : (prog.info? 151).map (fun i => (i.zero, i.size, i.bytes)) = some (some (.agg #[.string ⟨#[]⟩, .string ⟨#[]⟩, .int .i64 0, .int .i64 0, .int .i64 0, .int .i64 0, .int .i64 0, .int .i64 0, .int .i64 0, .int .i64 0, .int .i64 0, .int .i64 0, .int .i64 0, .int .i64 0]), 14, 128) := by kernel_rfl
theorem elG : ∃ i, ElT 29 110 8 i (.agg #[.string ⟨#[]⟩, .int .i64 0, .int .i64 0, .string ⟨#[]⟩, .string ⟨#[]⟩, .int .i64 0, .int .i64 0, .slice none 0 0]) 104 := by
  obtain ⟨i, hi, hz0, hz1, hz2⟩ := info_more infoG
  exact ⟨i, by kernel_rfl, hi, hz0, hz1, hz2, rfl, by decide, by decide⟩
theorem elGR : ∃ i, ElT 22 105 8 i (.agg #[.string ⟨#[]⟩, .int .i64 0, .int .i64 0, .string ⟨#[]⟩, .string ⟨#[]⟩, .int .i64 0, .int .i64 0, .slice none 0 0]) 104 := by
  obtain ⟨i, hi, hz0, hz1, hz2⟩ := info_more infoGR
  exact ⟨i, by kernel_rfl, hi, hz0, hz1, hz2, rfl, by decide, by decide⟩
theorem elL : ∃ i, ElT 108 132 14 i (.agg #[.string ⟨#[]⟩, .string ⟨#[]⟩, .int .i64 0, .int .i64 0, .int .i64 0, .int .i64 0, .int .i64 0, .int .i64 0, .int .i64 0, .int .i64 0, .int .i64 0, .int .i64 0, .int .i64 0, .int .i64 0]) 128 := by
  obtain ⟨i, hi, hz0, hz1, hz2⟩ := info_more infoL
  exact ⟨i, by kernel_rfl, hi, hz0, hz1, hz2, rfl, by decide, by decide⟩
theorem elLR : ∃ i, ElT 103 151 14 i (.agg #[.string ⟨#[]⟩, .string ⟨#[]⟩, .int .i64 0, .int .i64 0, .int .i64 0, .int .i64 0, .int .i64 0, .int .i64 0, .int .i64 0, .int .i64 0, .int .i64 0, .int .i64 0, .int .i64 0, .int .i64 0]) 128 := by
  obtain ⟨i, hi, hz0, hz1, hz2⟩ := info_more infoLR
  exact ⟨i, by kernel_rfl, hi, hz0, hz1, hz2, rfl, by decide, by decide⟩
end Go.Proofs.Tryz
