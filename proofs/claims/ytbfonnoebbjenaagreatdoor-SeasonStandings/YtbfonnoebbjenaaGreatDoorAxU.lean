/- Books and games of the season made out of the reference's; awake: by the kit's walk. DERIVED: THE SHELF's CONTRACTS AT THIS DUMP, IN PLAIN WORDS (tools/lay-plain.mjs out of 'AxShelf.lean', which tools/lay-shelf.mjs wrote): THE SAME DECLARATIONS UNDER THE SAME NAMES: 'import', 'namespace', 'open', 'def', 'theorem' AND NOTHING ELSE: no command of the shelf's: FOR A HAND-IN. Each laying: the table of numbers ('.._ren') and one theorem, a field a fact of the dump's own or the kernel's comparison; each contract: ONE APPLICATION. The sort of a row of totals by player: the library's contract at this program's instance, and what it leaves of the row. DERIVED: THE SHELF's CONTRACTS AT THIS DUMP, IN PLAIN WORDS (tools/lay-plain.mjs out of 'AxShelg.lean', which tools/lay-shelf.mjs wrote): THE SAME DECLARATIONS UNDER THE SAME NAMES: 'import', 'namespace', 'open', 'def', 'theorem' AND NOTHING ELSE: no command of the shelf's: FOR A HAND-IN. Each laying: the table of numbers ('.._ren') and one theorem, a field a fact of the dump's own or the kernel's comparison; each contract: ONE APPLICATION. Rows of totals joined (slices.Grow, slices.Concat): by the kit's walk. Rows of totals: searched by a predicate, cloned: by the kit's walk. Rows of totals without those that a predicate strikes (slices.DeleteFunc): by the kit's walk. Rows of totals without those that a predicate strikes (slices.DeleteFunc): the walk. Leaders sorted by the library: the contract at the season's own comparison. Leaders: what is answered, and the rows of it. The streak of a player in a book, on both sides: by the kit's walk. The streak of a player in a book of the season: by the kit's walk. -/
import Derived.Test.YtbfonnoebbjenaaGreatDoorAxSd
import Derived.Test.YtbfonnoebbjenaaGreatDoorAxTj
import Derived.Test.YtbfonnoebbjenaaGreatDoorAmL6
import Derived.Handy
import Derived.Shelf.SlGeneric
import Derived.Shelf.SlSortCmp.WholeK
import Derived.Ground.SlsfProg
import Derived.Ground.NamesProg
import Derived.Test.YtbfonnoebbjenaaGreatDoorProg
import Derived.Test.YtbfonnoebbjenaaGreatDoorAxSo
import Derived.Shelf.SlSortCmp.NoneTotal
import Derived.Shelf.Spec.SlicesGrow
import Derived.Ground.Names7Prog
import Derived.Test.YtbfonnoebbjenaaGreatDoorAxH
import Derived.Laws.IdiomCopy
import Derived.Test.YtbfonnoebbjenaaGreatDoorAxG
import Derived.Test.YtbfonnoebbjenaaGreatDoorAxK
namespace Go.Proofs.Tryz
open Go Go.Am Go.RowKit Go.Op
set_option maxRecDepth 100000

theorem Laid.below {w w' : World} (h : Laid w) (hb : Below w.heap.size w w') : Laid w' :=
  ⟨Nat.lt_of_lt_of_le h.1 hb.size, fun o v hv => (hb.cell (cell_under (h.2 o v hv))).trans (h.2 o v hv)⟩
theorem fn15 : cx.fn 15 = some f15 := by kernel_rfl
theorem hasBody15 : f15.body.isSome = true := by kernel_rfl
theorem awake_w {w : World} (h : Laid w) : Calls prog 15 #[] w fun e w' => e = .returned (.bool true) ∧ Below w.heap.size w w' := by
  obtain ⟨c, hc⟩ := Option.isSome_iff_exists.1 hasBody15
  refine (CallRet.calls fn15 hc (awake h)).mono fun e W' ⟨v, he, hv, hk⟩ => ?_
  subst hv
  exact ⟨he, hk.below⟩
theorem book_of {g : Nat → GmD} {n : Nat} {v : Value} {w : World} (h : IsGames w v g n) (hn : n ≤ 1000) (hk : ∀ i, i < n → (g i).k ≤ 1000) :
    Calls prog 18 #[v] w fun e w' => (∃ u, e = .returned (.agg #[u]) ∧ OwnGames w' w.heap.size 110 132 u g n) ∧ Below w.heap.size w w' := by
  have hb0 : ∀ o, Below w.heap.size w (w.alloc o) := fun o => (Below.refl _ _).alloc (Nat.le_refl _) _
  have cO := own_w (h.below (hb0 (.cells #[.slice none 0 0] 31))) hn hk
  have hx := at_new w #[.slice none 0 0] 31
  have hz0 := hb0 (.cells #[.slice none 0 0] 31)
  obtain ⟨W1, hW⟩ : ∃ W1, w.alloc (.cells #[.slice none 0 0] 31) = W1 := ⟨_, rfl⟩
  rw [hW] at cO hx hz0
  clear h hk
  go_enter func18, ntmps18
  go_wp2_with fail
  try rw [hW]
  go_at_call 20
  refine cO.mono ?_
  rintro e w2 ⟨⟨u, rfl, hu⟩, hb⟩
  obtain ⟨a5, c5, rfl⟩ := hu.slice
  have hx2 := hx.below hb hx.lt
  obtain ⟨y0, f0⟩ := box1 hx2
  have hb2 := hz0.trans (hb.mono hz0.size)
  have hb3 := fun v => hb2.setCell (p := ⟨w.heap.size, 0, none⟩) (Nat.le_refl _) v
  have hx3 := hx2.set 0 (.slice a5 n c5)
  obtain ⟨y1, f1⟩ := box1 hx3
  have hu3 : OwnGames (w2.setCell ⟨w.heap.size, 0, none⟩ (.slice a5 n c5)) w.heap.size 110 132 (.slice a5 n c5) g n := by
    obtain ⟨lv, h1, h2⟩ := hu
    exact ⟨lv, (h1.setCell hx2 (by decide) _ _).mono hz0.size, fun i hi => (OwnRow.setCell (h2 i hi) hx2 (by decide) _ _).mono hz0.size⟩
  clear cO hx hz0 hb hu hW hx2 hx3 hb0
  go_wp2_with fail
  refine bodyPost_ret (by simp [results, go_sem, y1]; rfl) rfl ?_
  exact ⟨⟨_, rfl, hu3⟩, hb3 _⟩
end Go.Proofs.Tryz

namespace Go.Proofs
open Go.Shelf
end Go.Proofs

namespace Go.Proofs.Tryz
open Go Go.Am Go.RowKit Go.Op
set_option maxRecDepth 100000

instance : Inhabited Tot := ⟨tot0⟩
end Go.Proofs.Tryz

namespace Go.Proofs
open Go.Shelf
end Go.Proofs

namespace Go.Proofs.Tryz
open Go Go.Am Go.RowKit Go.Op
set_option maxRecDepth 100000

end Go.Proofs.Tryz

namespace Go.Proofs.Tryz
open Go Go.Am Go.RowKit Go.Op
set_option maxRecDepth 100000

end Go.Proofs.Tryz

namespace Go.Proofs.Tryz
open Go Go.Am Go.RowKit Go.Op
set_option maxRecDepth 100000

end Go.Proofs.Tryz

namespace Go.Proofs.Tryz
open Go Go.Am Go.RowKit Go.Op
set_option maxRecDepth 100000

/-- How far a row has been rewritten. -/
structure DelI (P : Tot → Bool) (l : List Tot) (i j : Nat) (D : List Tot) : Prop where
  len : D.length = l.length
  head : D.take i = (l.take j).filter fun x => !P x
  tail : D.drop j = l.drop j
  lt : i < j
end Go.Proofs.Tryz

namespace Go.Proofs.Tryz
open Go Go.Am Go.RowKit Go.Op
set_option maxRecDepth 100000

/-- A total with a rate. -/
def PosB (i k : Nat) (t : Tot) : Prop := (0 ≤ t.c i ∧ t.c i ≤ 999999999) ∧ 1 ≤ t.c k ∧ t.c k ≤ 999999999
abbrev TotB (i k : Nat) := {t : Tot // PosB i k t}
instance (i k : Nat) : Inhabited (TotB i k) := ⟨⟨⟨[], 0, fun _ => 1⟩, by unfold PosB; simp⟩⟩
end Go.Proofs.Tryz

namespace Go.Proofs.Tryz
open Go Go.Am Go.RowKit Go.Op
set_option maxRecDepth 100000

def kdI (s : List UInt8) : Nat := (kindN s).toNat
theorem kdI_of {s : List UInt8} (h : kindE s = 0) : kindN s = (kdI s : Int) ∧ kdI s < 12 := by
  unfold kindE at h
  unfold kdI
  rcases kindN_in s with q | q
  · rw [q] at h; exact absurd h (by decide)
  · omega
end Go.Proofs.Tryz

namespace Go.Proofs.Tryz
open Go Go.Am Go.RowKit Go.Op
set_option maxRecDepth 100000

theorem wpList_sliceB {x : Bool} (w : World) {ops : Array Oper} {rest : List Oper} {o : Oper} {a : Act} {Q : Exit → Act → World → Prop} (hgd : o.guard = none) (y : Operand) (ho : o.op = .buildSlice 70 1 #[(0, y)])
    (hx : a.eval y = .bool x) (h : wpList prog ops Q rest (a.put o.dst (.slice (some ⟨w.heap.size, 0, none⟩) 1 1)) (w.alloc (.cells #[.bool x] 4))) : wpList prog ops Q (o :: rest) a w := wpList_slice1 (fun w => run_sliceB w x) w hgd y ho hx h
theorem res51 {tmps : Array Value} {W : World} {b : Nat} {c0 c1 c2 c3 : Value} (hp : tmps.getD 6 undef = .pointer (some ⟨b, 0, none⟩)) (hz : At W b #[c0, c1, c2, c3] 72) : (results f51 tmps).run prog W = .ok (.agg #[c0, c1, c2, c3]) W := by
  obtain ⟨⟨y0, y1, y2, y3⟩, -⟩ := box4 hz
  rw [results_cell1 (show f51.results = #[.cell 6 72] from rfl), hp]
  simp [go_sem, y0, y1, y2, y3]
set_option maxHeartbeats 6400000 in
theorem streakInR_w {g : Nat → GmD} {n : Nat} {v : Value} {w : World} (h : IsGames w v g n) (hn : n ≤ 66) (hk : ∀ i, i < n → (g i).k ≤ 62) (p : List UInt8) {k : Nat} (hk12 : k < 12) :
    Calls prog 51 #[v, .string (bA p), .int .i64 k] w fun e w' => e = .returned (.agg (strk (gmB g p k n)).arr) ∧ Below w.heap.size w w' := by
  obtain ⟨iB, TB⟩ := elB
  have HT := Lib.hid TB
  have HG := Lib.hid (And.intro h hk)
  obtain ⟨lv, hr, -⟩ := h
  obtain ⟨ad, c, rfl, hnc⟩ := hr.slice
  have lp : (bA p).toList = p := bA_list _
  have hx6 := at_new w #[.int .i64 0, .int .i64 0, .int .i64 0, .int .i64 0] 72
  have hB : Below w.heap.size w (w.alloc (.cells #[.int .i64 0, .int .i64 0, .int .i64 0, .int .i64 0] 72)) := (Below.refl _ _).alloc (Nat.le_refl _) _
  obtain ⟨W1, hW⟩ : ∃ W1, w.alloc (.cells #[.int .i64 0, .int .i64 0, .int .i64 0, .int .i64 0] 72) = W1 := ⟨_, rfl⟩
  rw [hW] at hx6 hB
  have hs1 : w.heap.size + 1 ≤ W1.heap.size := hx6.lt
  have hrow0 : OwnBools W1 (w.heap.size + 1) (.slice none 0 0) (gmB g p k 0) := OwnBools.start _ _
  have hi12 : (k : Int) < 12 := by omega
  obtain ⟨F, hF⟩ : ∃ F, strk (gmB g p k n) = F := ⟨_, rfl⟩
  have HF := Lib.hid hF
  rw [hF]
  unfold Skk.arr
  clear TB hk hr hF
  go_enter func51, ntmps51
  go_wp2_with fail
  try rw [hW]
  clear hW
  go_loopw [7, 8] (fun s7 s8 wr => ∃ i : Nat, i ≤ n ∧ s8 = .int .i64 i ∧ OwnBools wr (w.heap.size + 1) s7 (gmB g p k i) ∧ At wr w.heap.size #[.int .i64 0, .int .i64 0, .int .i64 0, .int .i64 0] 72 ∧ Below w.heap.size w wr ∧ w.heap.size + 1 ≤ wr.heap.size) (fun _ s8 _ => n - (numOf' s8).toNat)
  case atStart => exact ⟨0, Nat.zero_le _, rfl, hrow0, hx6, hB, hs1⟩
  case round =>
    clear hrow0 hx6 hB hs1
    obtain ⟨i, hi, rfl, hrow, hx6, hb, hsz⟩ := hrel
    by_cases hin : i < n
    · have hii : (i : Int) < (n : Int) := by omega
      have hki := HG.out.2 i hin
      obtain ⟨bb, off, c1, a1, kc, e, -, hli, -, -, -, -, -, -, -, p7⟩ := (HG.out.1.below hb).at hin
      simp only [Value.slice.injEq, true_and] at e
      obtain ⟨rfl, rfl⟩ := e
      have hgl : (gmB g p k i).length ≤ i * 62 := gmB_len fun j hj => HG.out.2 j (by omega)
      have hi62 : i * 62 ≤ 66 * 62 := Nat.mul_le_mul_right _ (by omega)
      have HGL := Lib.hid (Nat.le_trans hgl hi62)
      have HX := Lib.hid (And.intro hli p7)
      have hrow1 : OwnBools wr (w.heap.size + 1) u7 (gmB g p k i ++ lnB (g i).l p k 0) := by unfold lnB; rw [List.append_nil]; exact hrow
      obtain ⟨wq, rfl⟩ : ∃ W : World, W = wr := ⟨_, rfl⟩
      clear hli hgl hi62 hrow
      go_wp2_with fail
      go_loopw [7, 9] (fun s7 s9 wx => ∃ j : Nat, j ≤ (g i).k ∧ s9 = .int .i64 j ∧ OwnBools wx (w.heap.size + 1) s7 (gmB g p k i ++ lnB (g i).l p k j) ∧ At wx w.heap.size #[.int .i64 0, .int .i64 0, .int .i64 0, .int .i64 0] 72 ∧ Below w.heap.size w wx ∧ w.heap.size + 1 ≤ wx.heap.size) (fun _ s9 _ => (g i).k - (numOf' s9).toNat)
      case atStart => exact ⟨0, Nat.zero_le _, rfl, hrow1, hx6, hb, hsz⟩
      case round =>
        clear hrow1 hx6 hb hsz p7
        obtain ⟨j, hj, rfl, hrow, hx6, hb, hsz⟩ := hrel
        obtain ⟨bb2, off2, c2, a2, kc2, e, -, hli, -, -, -, -, -, -, -, p7⟩ := (HG.out.1.below hb).at hin
        simp only [Value.slice.injEq, true_and, Option.some.injEq, Addr.mk.injEq, and_true] at e
        obtain ⟨⟨rfl, rfl⟩, rfl⟩ := e
        by_cases hjk : j < (g i).k
        · obtain ⟨b2, off2, c2, e2, hk2, q0, q1, qc⟩ := hli.at hjk
          simp only [Value.slice.injEq, true_and] at e2
          obtain ⟨rfl, rfl⟩ := e2
          have hck := qc k hk12
          have hck2 := hck
          rw [← Nat.add_assoc] at hck2
          have hjj : (j : Int) < ((g i).k : Int) := by omega
          have lj : (bA ((g i).l j).p).toList = ((g i).l j).p := bA_list _
          have hnx : lnB (g i).l p k (j + 1) = if ((g i).l j).p = p then lnB (g i).l p k j ++ [decide (0 < ((g i).l j).c k)] else lnB (g i).l p k j := rfl
          have hll : (gmB g p k i ++ lnB (g i).l p k j).length ≤ 100000 := by
            have := lnB_len (g i).l p k j
            have := HGL.out
            rw [List.length_append]; omega
          obtain ⟨nm, hnm⟩ : ∃ m, ((g i).l j).p = m := ⟨_, rfl⟩
          obtain ⟨xn, hxn⟩ : ∃ m, ((g i).l j).c k = m := ⟨_, rfl⟩
          rw [hnm] at q0 lj hnx
          rw [hxn] at hck hck2 hnx
          by_cases hq : nm = p
          · have HN : Hid (lnB (g i).l p k (j + 1) = lnB (g i).l p k j ++ [decide (0 < xn)]) := Lib.hid (by rw [hnx, if_pos hq])
            subst hq
            clear hnx hnm hxn qc hli
            go_wp2_with (first
              | (with_reducible refine haltR ?_)
              | fail)
            unfold Halt
            have hal := fun o => (Below.refl wr.heap.size wr).alloc (Nat.le_refl _) o
            refine wpList_sliceB _ rfl _ rfl rfl ?_
            refine wpList_appendR HT.out _ rfl _ _ rfl (w.heap.size + 1) _ ((gmB g nm k i ++ lnB (g i).l nm k j).map fun b => [.bool b]) _ rfl 1 rfl (OwnRow.below hrow (hal _)) (by rw [List.length_map]; omega) [.bool (decide (0 < xn))] rfl (by simp [Value.oneCell']) (at_new _ _ _) (Nat.le_trans hsz (hal _).size) ?_
            intro a9 k9 c9 w9 hA
            have hrow9 : OwnBools w9 (w.heap.size + 1) (.slice a9 k9 c9) (gmB g nm k i ++ lnB (g i).l nm k (j + 1)) := by
              have := hA.row
              unfold OwnBools
              rw [HN.out, ← List.append_assoc, List.map_append]
              exact this
            have hx9 : At w9 w.heap.size #[.int .i64 0, .int .i64 0, .int .i64 0, .int .i64 0] 72 := by
              have h8 := hx6.below (hal (.cells #[.bool (decide (0 < xn))] 4)) hx6.lt
              exact (hA.old _ (Nat.lt_succ_self _) h8.lt).trans h8
            have hb9 := hA.below w (hb.trans ((hal _).mono hb.size)) (Nat.le_succ _)
            have hsz9 := Nat.le_trans (Nat.le_trans hsz (hal (.cells #[.bool (decide (0 < xn))] 4)).size) hA.size
            clear hA hal hrow hx6 hb hsz q0 q1 hck hck2 p7
            go_wp2_with fail
            go_roundw
            case rel => exact ⟨j + 1, by omega, by go_num, hrow9, hx9, hb9, hsz9⟩
            case measure => simp [numOf'] <;> omega
          · have HN : Hid (lnB (g i).l p k (j + 1) = lnB (g i).l p k j) := Lib.hid (by rw [hnx, if_neg hq])
            have hq' : (nm == p) = false := by simpa using hq
            have hrow9 := hrow
            rw [← HN.out] at hrow9
            clear hnx hnm hxn qc hli hrow
            go_wp2_with fail
            go_roundw
            case rel => exact ⟨j + 1, by omega, by go_num, hrow9, hx6, hb, hsz⟩
            case measure => simp [numOf'] <;> omega
        · obtain rfl : j = (g i).k := by omega
          have hrow9 : OwnBools wr (w.heap.size + 1) u7 (gmB g p k (i + 1)) := hrow
          clear hrow hli
          go_wp2_with fail
          go_roundw
          case rel => exact ⟨i + 1, by omega, by go_num, hrow9, hx6, hb, hsz⟩
          case measure => simp [numOf'] <;> omega
    · obtain rfl : i = n := by omega
      have hgl : (gmB g p k i).length ≤ i * 62 := gmB_len fun j hj => HG.out.2 j hj
      have hi62 : i * 62 ≤ 66 * 62 := Nat.mul_le_mul_right _ (by omega)
      have cS := streakOf_w hrow.is (by omega)
      rw [HF.out] at cS
      unfold Skk.arr at cS
      clear hrow hgl hi62
      go_wp2_with fail
      go_at_call 41
      refine cS.mono ?_
      rintro e W9 ⟨rfl, hb9⟩
      have hx9 := hx6.below hb9 hx6.lt
      have hbb := hb.trans (hb9.mono hb.size)
      have hz := hx9.put4 (.int .i64 F.g) (.int .i64 F.f) (.int .i64 F.l) (.int .i64 F.m)
      have hbz := below_put4 hbb (Nat.le_refl _) (.int .i64 F.g) (.int .i64 F.f) (.int .i64 F.l) (.int .i64 F.m)
      obtain ⟨⟨y0, y1, y2, y3⟩, g0, g1, g2, g3⟩ := box4 hx9
      clear cS hx6 hb hx9 hbb hb9
      go_wp2_with fail
      exact bodyPost_ret (res51 rfl hz) rfl ⟨rfl, hbz⟩
end Go.Proofs.Tryz

namespace Go.Proofs.Tryz
open Go Go.Am Go.RowKit Go.Op
set_option maxRecDepth 100000

theorem fst3_nil {a b c : Int} (h : fstE [a, b, c] = 0) : a = 0 ∧ b = 0 ∧ c = 0 := by
  unfold fstE at h
  split at h
  · rename_i q1
    unfold fstE at h
    split at h
    · rename_i q2
      unfold fstE at h
      split at h
      · rename_i q3; exact ⟨q1, q2, q3⟩
      · rename_i q3; exact absurd h q3
    · rename_i q2; exact absurd h q2
  · rename_i q1; exact absurd h q1
/-- What StreakIn answers: the error and the streak. -/
def siE (g : Nat → GmD) (n : Nat) (p kd : List UInt8) : Int := fstE [bookE g n, nmE p, kindE kd]
def siS (g : Nat → GmD) (n : Nat) (p kd : List UInt8) : Skk := if siE g n p kd = 0 then strk (gmB g p (kdI kd) n) else ⟨0, 0, 0, 0⟩
theorem res46 {tmps : Array Value} {W : World} {b : Nat} {c0 c1 c2 c3 v : Value} (hp : tmps.getD 6 undef = .pointer (some ⟨b, 0, none⟩)) (hv : tmps.getD 7 undef = v) (hz : At W b #[c0, c1, c2, c3] 73) : (results f46 tmps).run prog W = .ok (.tuple #[.agg #[c0, c1, c2, c3], v]) W := by
  obtain ⟨⟨y0, y1, y2, y3⟩, -⟩ := box4 hz
  simp only [results, show f46.results = #[.cell 6 73, .tmp 7] from rfl]
  have hp' : tmps[6]?.getD undef = .pointer (some ⟨b, 0, none⟩) := by simpa using hp
  have hv' : tmps[7]?.getD undef = v := by simpa using hv
  simp [go_sem, hp', hv', y0, y1, y2, y3]
set_option maxHeartbeats 6400000 in
theorem streakIn_w {w : World} (hlaid : Laid w) {g : Nat → GmD} {n : Nat} {v : Value} (h : IsGames w v g n) (hn : n ≤ 66) (hk : ∀ i, i < n → (g i).k ≤ 62 ∧ (g i).nm.length ≤ 60) (p kd : List UInt8) :
    Calls prog 46 #[.agg #[v], .string (bA p), .string (bA kd)] w fun e w' => e = .returned (.tuple #[.agg (siS g n p kd).arr, .int .i64 (siE g n p kd)]) ∧ Below w.heap.size w w' := by
  obtain ⟨iB, TB⟩ := elB
  have HT := Lib.hid TB
  have HG := Lib.hid (And.intro h hk)
  obtain ⟨lv, hr, -⟩ := h
  obtain ⟨ad, c, rfl, hnc⟩ := hr.slice
  have lp : (bA p).toList = p := bA_list _
  have hx3 := (at_new w #[.slice ad n c] 31).alloc (.cells #[.int .i64 0, .int .i64 0, .int .i64 0, .int .i64 0] 73)
  have hx6 : At ((w.alloc (.cells #[.slice ad n c] 31)).alloc (.cells #[.int .i64 0, .int .i64 0, .int .i64 0, .int .i64 0] 73)) (w.heap.size + 1) #[.int .i64 0, .int .i64 0, .int .i64 0, .int .i64 0] 73 := by
    have := at_new (w.alloc (.cells #[.slice ad n c] 31)) #[.int .i64 0, .int .i64 0, .int .i64 0, .int .i64 0] 73
    simpa using this
  have hB : Below w.heap.size w ((w.alloc (.cells #[.slice ad n c] 31)).alloc (.cells #[.int .i64 0, .int .i64 0, .int .i64 0, .int .i64 0] 73)) := ((Below.refl _ _).alloc (Nat.le_refl _) _).alloc (by simp) _
  obtain ⟨W1, hW⟩ : ∃ W1, (w.alloc (.cells #[.slice ad n c] 31)).alloc (.cells #[.int .i64 0, .int .i64 0, .int .i64 0, .int .i64 0] 73) = W1 := ⟨_, rfl⟩
  rw [hW] at hx3 hx6 hB
  have c93 := kindOf_w (hlaid.below hB) kd
  obtain ⟨F, hF⟩ : ∃ F, siS g n p kd = F := ⟨_, rfl⟩
  obtain ⟨E, hE⟩ : ∃ E, siE g n p kd = E := ⟨_, rfl⟩
  have HF : Hid (F = if E = 0 then strk (gmB g p (kdI kd) n) else ⟨0, 0, 0, 0⟩) := Lib.hid (by rw [← hF, siS, hE])
  rw [hF, hE]
  unfold Skk.arr
  have HK := Lib.hid (@kdI_of kd)
  obtain ⟨kn, hkn⟩ : ∃ z, kindN kd = z := ⟨_, rfl⟩
  obtain ⟨ek, hek⟩ : ∃ z, kindE kd = z := ⟨_, rfl⟩
  obtain ⟨eb, heb⟩ : ∃ z, bookE g n = z := ⟨_, rfl⟩
  obtain ⟨en, hen⟩ : ∃ z, nmE p = z := ⟨_, rfl⟩
  have hEE : fstE [eb, en, ek] = E := by rw [← hE, siE, heb, hen, hek]
  have HEE := Lib.hid hEE
  have c54 : ∀ W, Below w.heap.size w W → Calls prog 54 _ W _ := fun W hb => book_w (HG.out.1.below hb) (Nat.le_trans hn (by decide)) (fun i hi => ⟨Nat.le_trans (HG.out.2 i hi).1 (by decide), Nat.le_trans (HG.out.2 i hi).2 (by decide)⟩)
  have c117 := named_w p
  simp only [heb] at c54
  rw [hen] at c117
  rw [hkn, hek] at c93 HK
  have cF := first3_w eb en ek
  rw [hEE] at cF
  have hl1 : w.heap.size + 1 < W1.heap.size := hx6.lt
  clear TB hk hr hF hE hkn hek heb hen hEE hlaid
  go_enter func46, ntmps46
  go_wp2_with fail
  try rw [hW]
  clear hW
  go_at_call 93
  refine c93.mono ?_
  rintro e W2 ⟨rfl, hb2⟩
  have hx3 := hx3.below hb2 hx3.lt
  have hx6 := hx6.below hb2 hx6.lt
  have hB2 := hB.trans (hb2.mono hB.size)
  obtain ⟨y0, -⟩ := box1 hx3
  clear c93 hB hb2
  go_wp2_with fail
  go_at_call 54
  refine (c54 W2 hB2).mono ?_
  rintro e W3 ⟨rfl, hb3⟩
  have hx3 := hx3.below hb3 hx3.lt
  have hx6 := hx6.below hb3 hx6.lt
  have hB3 := hB2.trans (hb3.mono hB2.size)
  clear c54 hB2 hb3 y0
  go_wp2_with fail
  go_at_call 117
  refine (c117 W3).mono ?_
  rintro e W4 ⟨rfl, hb4⟩
  have hx3 := hx3.below hb4 hx3.lt
  have hx6 := hx6.below hb4 hx6.lt
  have hB4 := hB3.trans (hb4.mono hB3.size)
  have hal : Below W4.heap.size W4 (W4.alloc (.cells #[.int .i64 eb, .int .i64 en, .int .i64 ek] 26)) := (Below.refl _ _).alloc (Nat.le_refl _) _
  clear c117 hB3 hb4
  go_wp2_with fail
  go_at_call 88
  refine (cF _ _ (by simp) (by simp) (by simp)).mono ?_
  rintro e W5 ⟨rfl, rfl⟩
  have hx3 := hx3.below hal hx3.lt
  have hx6 := hx6.below hal hx6.lt
  have hB5 := hB4.trans (hal.mono hB4.size)
  obtain ⟨W5, hW5⟩ : ∃ W5, W4.alloc (.cells #[.int .i64 eb, .int .i64 en, .int .i64 ek] 26) = W5 := ⟨_, rfl⟩
  rw [hW5] at hx3 hx6 hB5 ⊢
  clear cF hB4 hal hW5
  by_cases hE0 : E = 0
  · obtain ⟨q1, q2, q3⟩ := fst3_nil (show fstE [eb, en, ek] = 0 by rw [HEE.out, hE0])
    obtain ⟨rfl, hk12⟩ := HK.out q3
    obtain ⟨k, hkk⟩ : ∃ k, kdI kd = k := ⟨_, rfl⟩
    rw [hkk] at hk12 HF ⊢
    have HFF : Hid (strk (gmB g p k n) = F) := Lib.hid (by rw [HF.out, if_pos hE0])
    have hi12 : (k : Int) < 12 := by omega
    subst hE0
    have hrow0 : OwnBools W5 (w.heap.size + 2) (.slice none 0 0) (gmB g p k 0) := OwnBools.start _ _
    have hs5 : w.heap.size + 2 ≤ W5.heap.size := hx6.lt
    have y0 := (box1 hx3).1
    clear q1 q2 q3 HF HK hkk
    go_wp2_with fail
    clear y0 hx3
    go_loopw [11, 35] (fun s11 s35 wr => ∃ i : Nat, i ≤ n ∧ s35 = .int .i64 i ∧ OwnBools wr (w.heap.size + 2) s11 (gmB g p k i) ∧ At wr (w.heap.size + 1) #[.int .i64 0, .int .i64 0, .int .i64 0, .int .i64 0] 73 ∧ Below w.heap.size w wr ∧ w.heap.size + 2 ≤ wr.heap.size) (fun _ s35 _ => n - (numOf' s35).toNat)
    case atStart => exact ⟨0, Nat.zero_le _, rfl, hrow0, hx6, hB5, hs5⟩
    case round =>
      clear hrow0 hx6 hB5 hs5
      obtain ⟨i, hi, rfl, hrow, hx6, hb, hsz⟩ := hrel
      by_cases hin : i < n
      · have hii : (i : Int) < (n : Int) := by omega
        have hki := (HG.out.2 i hin).1
        obtain ⟨bb, off, c1, a1, kc, e, -, hli, p0, p1, p2, p3, p4, p5, p6, p7⟩ := HG.out.1.at hin
        simp only [Value.slice.injEq, true_and] at e
        obtain ⟨rfl, rfl⟩ := e
        replace p0 := (hb.cell (cell_under p0)).trans p0
        replace p1 := (hb.cell (cell_under p1)).trans p1
        replace p2 := (hb.cell (cell_under p2)).trans p2
        replace p3 := (hb.cell (cell_under p3)).trans p3
        replace p4 := (hb.cell (cell_under p4)).trans p4
        replace p5 := (hb.cell (cell_under p5)).trans p5
        replace p6 := (hb.cell (cell_under p6)).trans p6
        replace p7 := (hb.cell (cell_under p7)).trans p7
        have hgl : (gmB g p k i).length ≤ i * 62 := gmB_len fun j hj => (HG.out.2 j (by omega)).1
        have hi62 : i * 62 ≤ 66 * 62 := Nat.mul_le_mul_right _ (by omega)
        have HGL := Lib.hid (Nat.le_trans hgl hi62)
        have hrow1 : OwnBools wr (w.heap.size + 2) u11 (gmB g p k i ++ lnB (g i).l p k 0) := by unfold lnB; rw [List.append_nil]; exact hrow
        have hb1 : Below wr.heap.size wr (wr.alloc (.cells ((g i).arr (.slice a1 (g i).k kc)) 110)) := (Below.refl _ _).alloc (Nat.le_refl _) _
        have hx1 := at_new wr ((g i).arr (.slice a1 (g i).k kc)) 110
        obtain ⟨W6, hW6⟩ : ∃ W6, wr.alloc (.cells ((g i).arr (.slice a1 (g i).k kc)) 110) = W6 := ⟨_, rfl⟩
        rw [hW6] at hb1 hx1
        have hrow1 := OwnRow.below hrow1 hb1
        have hx6 := hx6.below hb1 hx6.lt
        have hbb := hb.trans (hb1.mono hb.size)
        have hsz1 := Nat.le_trans hsz hb1.size
        have HLI : Hid (IsLines w (.slice a1 (g i).k kc) (g i).l (g i).k) := Lib.hid hli
        unfold GmD.arr at hW6 hx1
        obtain ⟨⟨x0, x1, x2, x3, x4, x5, x6, x7⟩, -⟩ := box8 hx1
        clear hli hgl hi62 hrow hb hsz hb1
        go_wp2_with fail
        try rw [hW6]
        clear hW6 p0 p1 p2 p3 p4 p5 p6 p7 x0 x1 x2 x3 x4 x5 x6 x7 hx1
        go_loopw [11, 42] (fun s11 s42 wx => ∃ j : Nat, j ≤ (g i).k ∧ s42 = .int .i64 j ∧ OwnBools wx (w.heap.size + 2) s11 (gmB g p k i ++ lnB (g i).l p k j) ∧ At wx (w.heap.size + 1) #[.int .i64 0, .int .i64 0, .int .i64 0, .int .i64 0] 73 ∧ Below w.heap.size w wx ∧ w.heap.size + 2 ≤ wx.heap.size) (fun _ s42 _ => (g i).k - (numOf' s42).toNat)
        case atStart => exact ⟨0, Nat.zero_le _, rfl, hrow1, hx6, hbb, hsz1⟩
        case round =>
          clear hrow1 hx6 hbb hsz1
          obtain ⟨j, hj, rfl, hrow, hx6, hb, hsz⟩ := hrel
          by_cases hjk : j < (g i).k
          · obtain ⟨b2, off2, c2, e2, hk2, q0, q1, qc⟩ := (HLI.out.below hb).at hjk
            simp only [Value.slice.injEq, true_and] at e2
            obtain ⟨rfl, rfl⟩ := e2
            have hc0 := qc 0 (by omega)
            have hc1 := qc 1 (by omega)
            have hc2 := qc 2 (by omega)
            have hc3 := qc 3 (by omega)
            have hc4 := qc 4 (by omega)
            have hc5 := qc 5 (by omega)
            have hc6 := qc 6 (by omega)
            have hc7 := qc 7 (by omega)
            have hc8 := qc 8 (by omega)
            have hc9 := qc 9 (by omega)
            have hc10 := qc 10 (by omega)
            have hc11 := qc 11 (by omega)
            simp only [Nat.reduceAdd] at hc0 hc1 hc2 hc3 hc4 hc5 hc6 hc7 hc8 hc9 hc10 hc11
            have hjj : (j : Int) < ((g i).k : Int) := by omega
            have lj : (bA ((g i).l j).p).toList = ((g i).l j).p := bA_list _
            have hnx : lnB (g i).l p k (j + 1) = if ((g i).l j).p = p then lnB (g i).l p k j ++ [decide (0 < ((g i).l j).c k)] else lnB (g i).l p k j := rfl
            have hll : (gmB g p k i ++ lnB (g i).l p k j).length ≤ 100000 := by
              have := lnB_len (g i).l p k j
              have := HGL.out
              rw [List.length_append]; omega
            have hb5 : Below wr.heap.size wr (wr.alloc (.cells ((g i).l j).arr 132)) := (Below.refl _ _).alloc (Nat.le_refl _) _
            have hz5 := at_new wr ((g i).l j).arr 132
            obtain ⟨W5b, hW5⟩ : ∃ W5, wr.alloc (.cells ((g i).l j).arr 132) = W5 := ⟨_, rfl⟩
            rw [hW5] at hb5 hz5
            obtain ⟨z0, z1, z2, z3, z4, z5, z6, z7, z8, z9, z10, z11, z12, z13⟩ := box14 hz5
            have zk := cell14 hz5 hk12
            have zk2 := zk
            have hrow := OwnRow.below hrow hb5
            have hx6 := hx6.below hb5 hx6.lt
            have hb := hb.trans (hb5.mono hb.size)
            have hsz := Nat.le_trans hsz hb5.size
            have hwl : wr.heap.size < W5b.heap.size := hz5.lt
            obtain ⟨xn, hxn⟩ : ∃ m, ((g i).l j).c k = m := ⟨_, rfl⟩
            rw [hxn] at zk zk2 hnx
            unfold LnD.arr at hW5
            by_cases hq : ((g i).l j).p = p
            · have HN : Hid (lnB (g i).l p k (j + 1) = lnB (g i).l p k j ++ [decide (0 < xn)]) := Lib.hid (by rw [hnx, if_pos hq])
              have HQ := Lib.hid hq
              have hqb : (((g i).l j).p == p) = true := by simpa using hq
              clear hnx hxn qc hb5 hz5 hq
              go_wp2_with (first
                | (with_reducible refine haltR ?_)
                | fail)
              try rw [hW5]
              clear hW5 q0 q1 hc0 hc1 hc2 hc3 hc4 hc5 hc6 hc7 hc8 hc9 hc10 hc11
              go_wp2_with (first
                | (with_reducible refine haltR ?_)
                | fail)
              unfold Halt
              have hal := fun o => (Below.refl W5b.heap.size W5b).alloc (Nat.le_refl _) o
              refine wpList_sliceB _ rfl _ rfl rfl ?_
              refine wpList_appendR HT.out _ rfl _ _ rfl (w.heap.size + 2) _ ((gmB g p k i ++ lnB (g i).l p k j).map fun b => [.bool b]) _ rfl 1 rfl (OwnRow.below hrow (hal _)) (by rw [List.length_map]; omega) [.bool (decide (0 < xn))] rfl (by simp [Value.oneCell']) (at_new _ _ _) (Nat.le_trans hsz (hal _).size) ?_
              intro a9 k9 c9 w9 hA
              have hrow9 : OwnBools w9 (w.heap.size + 2) (.slice a9 k9 c9) (gmB g p k i ++ lnB (g i).l p k (j + 1)) := by
                have := hA.row
                unfold OwnBools
                rw [HN.out, ← List.append_assoc, List.map_append]
                exact this
              have hx9 : At w9 (w.heap.size + 1) #[.int .i64 0, .int .i64 0, .int .i64 0, .int .i64 0] 73 := by
                have h8 := hx6.below (hal (.cells #[.bool (decide (0 < xn))] 4)) hx6.lt
                exact (hA.old _ (Nat.lt_succ_self _) h8.lt).trans h8
              have hb9 := hA.below w (hb.trans ((hal _).mono hb.size)) (by omega)
              have hsz9 := Nat.le_trans (Nat.le_trans hsz (hal (.cells #[.bool (decide (0 < xn))] 4)).size) hA.size
              clear hA hal hrow hx6 hb hsz z0 z1 z2 z3 z4 z5 z6 z7 z8 z9 z10 z11 z12 z13 zk zk2
              go_wp2_with fail
              go_roundw
              case rel => exact ⟨j + 1, by omega, by go_num, hrow9, hx9, hb9, hsz9⟩
              case measure => simp [numOf'] <;> omega
            · have HN : Hid (lnB (g i).l p k (j + 1) = lnB (g i).l p k j) := Lib.hid (by rw [hnx, if_neg hq])
              have hqb : (((g i).l j).p == p) = false := by simpa using hq
              have hrow9 := hrow
              rw [← HN.out] at hrow9
              clear hnx hxn qc hb5 hz5 hq hrow
              go_wp2_with fail
              try rw [hW5]
              clear hW5
              go_wp2_with fail
              go_roundw
              case rel => exact ⟨j + 1, by omega, by go_num, hrow9, hx6, hb, hsz⟩
              case measure => simp [numOf'] <;> omega
          · obtain rfl : j = (g i).k := by omega
            have hrow9 : OwnBools wr (w.heap.size + 2) u11 (gmB g p k (i + 1)) := hrow
            clear hrow
            go_wp2_with fail
            go_roundw
            case rel => exact ⟨i + 1, by omega, by go_num, hrow9, hx6, hb, hsz⟩
            case measure => simp [numOf'] <;> omega
      · obtain rfl : i = n := by omega
        have hgl : (gmB g p k i).length ≤ i * 62 := gmB_len fun j hj => (HG.out.2 j hj).1
        have hi62 : i * 62 ≤ 66 * 62 := Nat.mul_le_mul_right _ (by omega)
        have cS := streak_w hrow.is (by omega)
        rw [HFF.out] at cS
        unfold Skk.arr at cS
        clear hrow hgl hi62
        go_wp2_with fail
        go_at_call 111
        refine cS.mono ?_
        rintro e W9 ⟨rfl, hb9⟩
        have hx9 := hx6.below hb9 hx6.lt
        have hbb := hb.trans (hb9.mono hb.size)
        have hz := hx9.put4 (.int .i64 F.g) (.int .i64 F.f) (.int .i64 F.l) (.int .i64 F.m)
        have hbz := below_put4 hbb (Nat.le_succ _) (.int .i64 F.g) (.int .i64 F.f) (.int .i64 F.l) (.int .i64 F.m)
        obtain ⟨⟨y0, y1, y2, y3⟩, g0, g1, g2, g3⟩ := box4 hx9
        clear cS hx6 hb hx9 hbb hb9
        go_wp2_with fail
        exact bodyPost_ret (res46 rfl rfl hz) rfl ⟨rfl, hbz⟩
  · have hE1 : (E != 0) = true := by simpa using hE0
    have HFF : Hid (F = ⟨0, 0, 0, 0⟩) := Lib.hid (by rw [HF.out, if_neg hE0])
    have hz := hx6.put4 (.int .i64 0) (.int .i64 0) (.int .i64 0) (.int .i64 0)
    have hbz := below_put4 hB5 (Nat.le_succ _) (.int .i64 0) (.int .i64 0) (.int .i64 0) (.int .i64 0)
    obtain ⟨⟨y0, y1, y2, y3⟩, g0, g1, g2, g3⟩ := box4 hx6
    have hFv := HFF.out
    subst hFv
    clear HF HK HEE HFF hx6 hx3
    go_wp2_with fail
    exact bodyPost_ret (res46 rfl rfl hz) rfl ⟨rfl, hbz⟩
end Go.Proofs.Tryz
