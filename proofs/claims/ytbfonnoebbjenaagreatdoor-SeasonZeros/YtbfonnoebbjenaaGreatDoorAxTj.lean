/- The season's map of totals: a line added: by the kit's walk. The season's map of totals: the lines of games added: by the kit's walk. Standings: their boxes, a score added, what is asked of them, half games: by the kit's walk. Greatest common divisors as the programs compute them: plain laws, no program in sight. A list of totals checked by the reference: by the kit's walk; what a list that passes is like. A list of totals checked by the season: by the kit's walk. The kinds of counts, on both sides; lists of words compared: by the kit's walk. Greatest common divisors, rates and kinds, on both sides: by the kit's walk. Rates in lowest terms, on both sides: by the kit's walk. Rates of the play package, and their comparison: by the kit's walk. The closures of the season's leaders: by the kit's walk. -/
import Derived.Test.YtbfonnoebbjenaaGreatDoorAxH
import Derived.Test.YtbfonnoebbjenaaGreatDoorAxK
import Derived.Handy
import Derived.Test.YtbfonnoebbjenaaGreatDoorAxPb
import Derived.Test.YtbfonnoebbjenaaGreatDoorAxJ
import Derived.Test.YtbfonnoebbjenaaGreatDoorAxA
import Derived.Test.YtbfonnoebbjenaaGreatDoorAxL
import Derived.Deep.QuietTactic
import Derived.Test.YtbfonnoebbjenaaGreatDoorAxF
import Derived.Sort.Grow
namespace Go.Proofs.Tryz
open Go Go.Am Go.RowKit Go.Op Go.Maps Go.WideMaps
set_option maxRecDepth 100000

end Go.Proofs.Tryz

namespace Go.Proofs.Tryz
open Go Go.Am Go.RowKit Go.Op Go.Maps Go.WideMaps
set_option maxRecDepth 100000

theorem grown_trans {a c d : World} {g : Option Nat} (h : a.grownBy c g) (k : c.grownBy d g) : a.grownBy d g :=
  ⟨k.os.trans h.os, k.tape.trans h.tape, k.output.trans h.output, Nat.le_trans h.size k.size, fun i hi hne => (k.block i (Nat.lt_of_lt_of_le hi h.size) hne).trans (h.block i hi hne)⟩
end Go.Proofs.Tryz

namespace Go.Proofs.Tryz
open Go Go.Am Go.RowKit Go.Op
set_option maxRecDepth 100000

def Std.arr (s : Std) : Array Value := #[.string (bA s.t), .int .i64 s.w, .int .i64 s.l, .int .i64 s.d, .int .i64 s.f, .int .i64 s.a]
def Std.cells (s : Std) : List Value := [.string (bA s.t), .int .i64 s.w, .int .i64 s.l, .int .i64 s.d, .int .i64 s.f, .int .i64 s.a]
theorem Std.len (s : Std) : s.cells.length = 6 := rfl
theorem Std.one (s : Std) : ∀ u ∈ s.cells, u.oneCell' = true := fun u hu => by
  simp only [Std.cells, List.mem_cons, List.not_mem_nil, or_false] at hu
  rcases hu with rfl | rfl | rfl | rfl | rfl | rfl <;> rfl
/-- The six cells of a standing's block. -/
theorem box6 {w : World} {b : Nat} {v0 v1 v2 v3 v4 v5 : Value} {e : TypeId} (h : At w b #[v0, v1, v2, v3, v4, v5] e) :
    (w.cell? ⟨b, 0, none⟩ = some v0 ∧ w.cell? ⟨b, 1, none⟩ = some v1 ∧ w.cell? ⟨b, 2, none⟩ = some v2 ∧ w.cell? ⟨b, 3, none⟩ = some v3 ∧ w.cell? ⟨b, 4, none⟩ = some v4 ∧ w.cell? ⟨b, 5, none⟩ = some v5) ∧
    w.frozen? ⟨b, 0, none⟩ = false ∧ w.frozen? ⟨b, 1, none⟩ = false ∧ w.frozen? ⟨b, 2, none⟩ = false ∧ w.frozen? ⟨b, 3, none⟩ = false ∧ w.frozen? ⟨b, 4, none⟩ = false ∧ w.frozen? ⟨b, 5, none⟩ = false := by
  unfold At at h
  refine ⟨⟨?_, ?_, ?_, ?_, ?_, ?_⟩, ?_, ?_, ?_, ?_, ?_, ?_⟩ <;> simp only [World.cell?, World.frozen?, h] <;> rfl
theorem grown_set (w : World) (b j : Nat) (u : Value) : w.grownBy (w.setCell ⟨b, j, none⟩ u) (some b) :=
  ⟨rfl, rfl, rfl, by simp, fun k _ hk => Below.heap_setCell _ _ _ _ (fun e => hk (by rw [e]))⟩
set_option maxHeartbeats 1600000 in
theorem add114_w {w : World} {b : Nat} {s : Std} (h : At w b s.arr 92) {m : Nat} (hs : SmS m s) (hm : m ≤ 10000) {o g : Int} (ho : 0 ≤ o ∧ o ≤ 999) (hg : 0 ≤ g ∧ g ≤ 999) :
    Calls prog 114 #[.pointer (some ⟨b, 0, none⟩), .int .i64 o, .int .i64 g] w fun e w' => e = .returned (.tuple #[]) ∧ At w' b (addS s o g).arr 92 ∧ w.grownBy w' (some b) ∧ w'.heap.size = w.heap.size := by
  obtain ⟨t, W, L, D, F, A⟩ := s
  obtain ⟨q1, q2, q3, q4, q5⟩ := hs
  simp only at q1 q2 q3 q4 q5
  obtain ⟨r1, r2⟩ := inI_wrap (show inI (F + o) by unfold inI; omega)
  obtain ⟨r3, r4⟩ := inI_wrap (show inI (A + g) by unfold inI; omega)
  obtain ⟨r5, r6⟩ := inI_wrap (show inI (W + 1) by unfold inI; omega)
  obtain ⟨r7, r8⟩ := inI_wrap (show inI (L + 1) by unfold inI; omega)
  obtain ⟨r9, r10⟩ := inI_wrap (show inI (D + 1) by unfold inI; omega)
  unfold Std.arr at h
  have g1 := h.set 4 (.int .i64 (F + o))
  have g2 := g1.set 5 (.int .i64 (A + g))
  have gr := grown_trans (grown_set w b 4 (.int .i64 (F + o))) (grown_set _ b 5 (.int .i64 (A + g)))
  obtain ⟨⟨x0, x1, x2, x3, x4, x5⟩, f0, f1, f2, f3, f4, f5⟩ := box6 h
  clear q1 q2 q3 q4 q5 ho hg h hm
  unfold addS Std.arr
  simp only
  by_cases c1 : g < o
  · rw [if_pos c1, if_neg (show ¬ o < g by omega), if_pos c1]
    have g3 := g2.set 1 (.int .i64 (W + 1))
    have gr2 := grown_trans gr (grown_set _ b 1 (.int .i64 (W + 1)))
    clear g1 g2 gr
    go_enter func114, ntmps114
    go_wp2_with fail
    go_end0
    exact ⟨rfl, g3, gr2, by simp⟩
  · by_cases c2 : o < g
    · rw [if_neg c1, if_pos c2, if_neg c1, if_pos c2]
      have g3 := g2.set 2 (.int .i64 (L + 1))
      have gr2 := grown_trans gr (grown_set _ b 2 (.int .i64 (L + 1)))
      clear g1 g2 gr
      go_enter func114, ntmps114
      go_wp2_with fail
      go_end0
      exact ⟨rfl, g3, gr2, by simp⟩
    · rw [if_neg c1, if_neg c2, if_neg c1, if_neg c2]
      have g3 := g2.set 3 (.int .i64 (D + 1))
      have gr2 := grown_trans gr (grown_set _ b 3 (.int .i64 (D + 1)))
      clear g1 g2 gr
      go_enter func114, ntmps114
      go_wp2_with fail
      go_end0
      exact ⟨rfl, g3, gr2, by simp⟩

/-! ### what is asked of a standing -/
def nuS (s : Std) : Nat → Int
  | 0 => s.w
  | 1 => s.l
  | 2 => s.d
  | 3 => s.f
  | _ => s.a
def chkK (s : Std) (j : Nat) : Int := fstE (nmE s.t :: (List.range j).map fun i => inE (nuS s i) 0 999999999)
def chkS (s : Std) : Int := chkK s 5
theorem chkK_step (s : Std) (j : Nat) : chkK s (j + 1) = fstE [chkK s j, inE (nuS s j) 0 999999999] := by
  unfold chkK
  rw [List.range_succ, List.map_append, ← List.cons_append, fstE_append]
  generalize fstE (nmE s.t :: (List.range j).map fun i => inE (nuS s i) 0 999999999) = x
  by_cases h : x = 0
  · subst h; simp [fstE]
  · simp [fstE, h]
theorem chkS_zero {s : Std} (h : chkS s = 0) : isNm s.t = true ∧ (0 ≤ s.w ∧ s.w ≤ 999999999) ∧ (0 ≤ s.l ∧ s.l ≤ 999999999) ∧ (0 ≤ s.d ∧ s.d ≤ 999999999) ∧ (0 ≤ s.f ∧ s.f ≤ 999999999) ∧ 0 ≤ s.a ∧ s.a ≤ 999999999 := by
  have h2 : fstE [nmE s.t, inE s.w 0 999999999, inE s.l 0 999999999, inE s.d 0 999999999, inE s.f 0 999999999, inE s.a 0 999999999] = 0 := h
  have key : ∀ x, inE x 0 999999999 = 0 → 0 ≤ x ∧ x ≤ 999999999 := fun x hx => by
    unfold inE at hx
    split at hx
    · cases hx
    · omega
  have cut : ∀ (x : Int) (l : List Int), fstE (x :: l) = 0 → x = 0 ∧ fstE l = 0 := fun x l hx => by
    unfold fstE at hx
    split at hx
    · exact ⟨by assumption, hx⟩
    · exact absurd hx (by assumption)
  obtain ⟨a0, h2⟩ := cut _ _ h2
  obtain ⟨a1, h2⟩ := cut _ _ h2
  obtain ⟨a2, h2⟩ := cut _ _ h2
  obtain ⟨a3, h2⟩ := cut _ _ h2
  obtain ⟨a4, h2⟩ := cut _ _ h2
  obtain ⟨a5, h2⟩ := cut _ _ h2
  refine ⟨?_, key _ a1, key _ a2, key _ a3, key _ a4, key _ a5⟩
  unfold nmE at a0
  split at a0
  · assumption
  · cases a0
set_option maxHeartbeats 3200000 in
theorem check118_w (s : Std) (w : World) : Calls prog 118 #[.agg #[.string (bA s.t), .int .i64 s.w, .int .i64 s.l, .int .i64 s.d, .int .i64 s.f, .int .i64 s.a]] w fun e w' => e = .returned (.int .i64 (chkS s)) ∧ Below w.heap.size w w' := by
  have hB : Below w.heap.size w (w.alloc (.cells s.arr 92)) := (Below.refl _ _).alloc (Nat.le_refl _) _
  have hx := at_new w s.arr 92
  obtain ⟨W2, hW⟩ : ∃ W2, w.alloc (.cells s.arr 92) = W2 := ⟨_, rfl⟩
  rw [hW] at hB hx
  unfold Std.arr at hW hx
  have c0 := named_w s.t
  have H0 : Hid (nmE s.t = chkK s 0) := Lib.hid (by unfold chkK; simp [fstE])
  obtain ⟨e0, he0⟩ : ∃ x, nmE s.t = x := ⟨_, rfl⟩
  rw [he0] at c0 H0
  obtain ⟨R, hR⟩ : ∃ R, chkS s = R := ⟨_, rfl⟩
  rw [hR]
  have HR : Hid (chkK s 5 = R) := Lib.hid hR
  obtain ⟨⟨z0, z1, z2, z3, z4, z5⟩, -⟩ := box6 hx
  clear he0 hR
  go_enter func118, ntmps118
  go_wp2_with fail
  try rw [hW]
  clear hW
  go_at_call 117
  refine (c0 _).mono ?_
  rintro e W3 ⟨rfl, hb3⟩
  have hx3 := hx.below hb3 hx.lt
  have hB3 := hB.trans (hb3.mono hB.size)
  have hy := at_new W3 #[.int .i64 s.w, .int .i64 s.l, .int .i64 s.d, .int .i64 s.f, .int .i64 s.a] 3
  have hB4 := hB3.alloc hB3.size (.cells #[.int .i64 s.w, .int .i64 s.l, .int .i64 s.d, .int .i64 s.f, .int .i64 s.a] 3)
  have hys : W3.heap.size < (W3.alloc (.cells #[.int .i64 s.w, .int .i64 s.l, .int .i64 s.d, .int .i64 s.f, .int .i64 s.a] 3)).heap.size := hy.lt
  obtain ⟨⟨x0, x1, x2, x3, x4, x5⟩, -⟩ := box6 hx3
  obtain ⟨W4, hW4⟩ : ∃ W4, W3.alloc (.cells #[.int .i64 s.w, .int .i64 s.l, .int .i64 s.d, .int .i64 s.f, .int .i64 s.a] 3) = W4 := ⟨_, rfl⟩
  rw [hW4] at hy hB4 hys
  have hcy : Hid (∀ j, j < 5 → W4.cell? ⟨W3.heap.size, j, none⟩ = some (.int .i64 (nuS s j))) := Lib.hid fun j hj => by
    obtain ⟨⟨y0, y1, y2, y3, y4⟩, -⟩ := box5 hy
    match j, hj with
    | 0, _ => exact y0
    | 1, _ => exact y1
    | 2, _ => exact y2
    | 3, _ => exact y3
    | 4, _ => exact y4
    | j + 5, h => omega
  clear c0 hx hb3 hB hx3 hB3 hy z0 z1 z2 z3 z4 z5
  go_wp2_with fail
  try rw [hW4]
  clear hW4 x0 x1 x2 x3 x4 x5
  go_loopw [3, 21] (fun s3 s21 wr => ∃ j : Nat, j ≤ 5 ∧ s21 = .int .i64 j ∧ (∃ e, s3 = .int .i64 e ∧ Hid (e = chkK s j)) ∧ Below W4.heap.size W4 wr) (fun _ s21 _ => 5 - (numOf' s21).toNat)
  case atStart => exact ⟨0, Nat.zero_le _, rfl, ⟨_, rfl, H0⟩, Below.refl _ _⟩
  case round =>
    clear H0
    obtain ⟨j, hj, rfl, ⟨e, rfl, hE⟩, hbl⟩ := hrel
    by_cases hj5 : j < 5
    · have hcj := hcy.out j hj5
      have hc2 := (hbl.cell (cell_under hcj)).trans hcj
      have hjj : (j : Int) < 5 := by omega
      have cW := within_w (nuS s j) 0 999999999
      have hs := chkK_step s j
      rw [← hE.out] at hs
      obtain ⟨x, hx⟩ : ∃ x, inE (nuS s j) 0 999999999 = x := ⟨_, rfl⟩
      obtain ⟨nu, hnu⟩ : ∃ x, nuS s j = x := ⟨_, rfl⟩
      rw [hx] at cW hs
      rw [hnu] at cW hc2
      have cF := first2_w e x
      have HS := Lib.hid hs.symm
      clear hs hx hE hcj hnu
      have hbx := fun o => hbl.alloc hbl.size o
      go_wp2_with (first
        | (go_at_call 94; refine (cW _).mono ?_; rintro e w' ⟨rfl, rfl⟩)
        | (go_at_call 88; refine (cF _ _ (by simp) (by simp)).mono ?_; rintro e w' ⟨rfl, rfl⟩))
      go_roundw
      case rel => exact ⟨j + 1, by omega, by go_num, ⟨_, rfl, HS⟩, hbx _⟩
      case measure => simp [numOf'] <;> omega
    · obtain rfl : j = 5 := by omega
      have hfin := hB4.trans (hbl.mono hB4.size)
      have HE : Hid (e = R) := Lib.hid (by rw [hE.out, HR.out])
      clear hE
      go_wp2_with fail
      go_ret
      exact ⟨by rw [← HE.out]; rfl, hfin⟩
theorem firstR6_w (e0 e1 e2 e3 e4 e5 : Int) (b : Nat) (W : World) (h0 : W.cell? ⟨b, 0, none⟩ = some (.int .i64 e0)) (h1 : W.cell? ⟨b, 1, none⟩ = some (.int .i64 e1)) (h2 : W.cell? ⟨b, 2, none⟩ = some (.int .i64 e2)) (h3 : W.cell? ⟨b, 3, none⟩ = some (.int .i64 e3)) (h4 : W.cell? ⟨b, 4, none⟩ = some (.int .i64 e4)) (h5 : W.cell? ⟨b, 5, none⟩ = some (.int .i64 e5)) :
    Calls prog 22 #[.slice (some ⟨b, 0, none⟩) 6 6] W fun e w' => e = .returned (.int .i64 (fstE [e0, e1, e2, e3, e4, e5])) ∧ w' = W :=
  firstR_w [e0, e1, e2, e3, e4, e5] b 6 W (by simp) fun j z h => by
    match j, h with
    | 0, h => simp at h; subst h; exact h0
    | 1, h => simp at h; subst h; exact h1
    | 2, h => simp at h; subst h; exact h2
    | 3, h => simp at h; subst h; exact h3
    | 4, h => simp at h; subst h; exact h4
    | 5, h => simp at h; subst h; exact h5
    | j + 6, h => simp at h
end Go.Proofs.Tryz

namespace Go.Gcx

end Go.Gcx

namespace Go.Proofs.Tryz
open Go Go.Am Go.RowKit Go.Op
set_option maxRecDepth 100000

end Go.Proofs.Tryz

namespace Go.Proofs.Tryz
open Go Go.Am Go.RowKit Go.Op
set_option maxRecDepth 100000

end Go.Proofs.Tryz

namespace Go.Proofs.Tryz
open Go Go.Am Go.RowKit Go.Op
set_option maxRecDepth 100000

end Go.Proofs.Tryz

namespace Go.Proofs.Tryz
open Go Go.Am Go.RowKit Go.Gcx Go.Op
set_option maxRecDepth 100000

/-! ### kinds -/
end Go.Proofs.Tryz

namespace Go.Proofs.Tryz
open Go Go.Am Go.RowKit Go.Gcx Go.Op
set_option maxRecDepth 100000

end Go.Proofs.Tryz

namespace Go.Proofs.Tryz
open Go Go.Am Go.RowKit Go.Gcx Go.Op
set_option maxRecDepth 100000

end Go.Proofs.Tryz

namespace Go.Proofs.Tryz
open Go Go.Am Go.RowKit Go.Op
set_option maxRecDepth 100000

/-- So many draws on, these blocks behind. -/
def Grn (w W : World) : Prop := ∃ q os, W = Go.Sort.grow (w.drewN q) os
theorem Grn.refl (w : World) : Grn w w := ⟨0, #[], by rw [Go.Sort.grow_empty]; rfl⟩
theorem Grn.drew {w W : World} (h : Grn w W) : Grn w W.drew := by
  obtain ⟨q, os, rfl⟩ := h
  exact ⟨q + 1, os, by rw [Go.Sort.drew_grow]; show Go.Sort.grow ((w.drewN q).drewN 1) os = _; rw [World.drewN_drewN]⟩
theorem Grn.alloc {w W : World} (h : Grn w W) (o : Obj) : Grn w (W.alloc o) := by
  obtain ⟨q, os, rfl⟩ := h
  exact ⟨q, os ++ #[o], by rw [Go.Sort.alloc_eq_grow, Go.Sort.grow_grow]⟩
theorem Grn.trans {w W U : World} (h : Grn w W) (k : Grn W U) : Grn w U := by
  obtain ⟨q, os, rfl⟩ := h
  obtain ⟨r, os', rfl⟩ := k
  exact ⟨q + r, os ++ os', by show Go.Sort.grow (Go.Sort.grow ((w.drewN q).drewN r) os) os' = _; rw [Go.Sort.grow_grow, World.drewN_drewN]⟩
theorem Grn.heap {w W : World} (h : Grn w W) {b : Nat} (hb : b < w.heap.size) : W.heap[b]? = w.heap[b]? := by
  obtain ⟨q, os, rfl⟩ := h
  exact Go.Sort.heap_grow_old _ _ hb
theorem Grn.at {w W : World} (h : Grn w W) {b : Nat} {cs : Array Value} {e : TypeId} (hv : At w b cs e) : At W b cs e := (h.heap hv.lt).trans hv
end Go.Proofs.Tryz
