/- The Builder's WriteString and String, as PrintAll calls them: by the shelf. Lists of plays printed, on both sides: by the kit's walk; the Builder by the shelf. Lists of plays printed by the reference; compared: by the kit's walk. Lists of plays compared: by the kit's walk. Plain: a list of valid plays is parsed as it was printed. On the seat of the open Play statements: a list of plays as an argument of a row. PlayTexts returns true, and what was in memory is as it was: by the kit's walk. -/
import Derived.Test.YthlmjjdlmidnlaaGreatDoorAsQu
import Derived.Test.YthlmjjdlmidnlaaGreatDoorAtMu
import Derived.Shelf.Strings.Builder1
import Derived.Test.YthlmjjdlmidnlaaGreatDoorAsUu
import Derived.Test.YthlmjjdlmidnlaaGreatDoorAsBu
import Derived.Deep.RegionWith
import Derived.Deep.RegionHeld3
import Derived.Deep.DeepCutAuto
import Derived.Test.YthlmjjdlmidnlaaGreatDoorAvEu
namespace Go.Proofs
open Go.Shelf
theorem Tryz.writeSL : Go.Proofs.Lays.n166 Tryz.prog Tryz.joinSL_ren := {
  mixed := Tryz.joinSL.mixed
  f166 := Tryz.joinSL.f166
  f240 := Tryz.joinSL.f240
  f276 := Tryz.joinSL.f276
  t0 := Tryz.joinSL.t0
  a0 := Tryz.joinSL.a0
  z0 := Tryz.joinSL.z0
  v0 := Tryz.joinSL.v0
  t3 := Tryz.joinSL.t3
  a3 := Tryz.joinSL.a3
  z3 := Tryz.joinSL.z3
  v3 := Tryz.joinSL.v3
  t4 := Tryz.joinSL.t4
  a4 := Tryz.joinSL.a4
  z4 := Tryz.joinSL.z4
  v4 := Tryz.joinSL.v4
  t9 := Tryz.joinSL.t9
  a9 := Tryz.joinSL.a9
  z9 := Tryz.joinSL.z9
  v9 := Tryz.joinSL.v9
  t20 := Tryz.joinSL.t20
  a20 := Tryz.joinSL.a20
  z20 := Tryz.joinSL.z20
  v20 := Tryz.joinSL.v20
  t37 := Tryz.joinSL.t37
  a37 := Tryz.joinSL.a37
  z37 := Tryz.joinSL.z37
  v37 := Tryz.joinSL.v37
  t70 := Tryz.joinSL.t70
  a70 := Tryz.joinSL.a70
  z70 := Tryz.joinSL.z70
  v70 := Tryz.joinSL.v70
  t72 := Tryz.joinSL.t72
  a72 := Tryz.joinSL.a72
  z72 := Tryz.joinSL.z72
  v72 := Tryz.joinSL.v72
  t75 := Tryz.joinSL.t75
  a75 := Tryz.joinSL.a75
  z75 := Tryz.joinSL.z75
  v75 := Tryz.joinSL.v75
  t164 := Tryz.joinSL.t164
  a164 := Tryz.joinSL.a164
  z164 := Tryz.joinSL.z164
  v164 := Tryz.joinSL.v164 }
end Go.Proofs
namespace Go.Proofs.Tryz
open Go Go.Am Go.RowKit Go.Dr
set_option maxRecDepth 100000
end Go.Proofs.Tryz

namespace Go.Proofs.Tryz
open Go Go.Am Go.RowKit Go.Dr
set_option maxRecDepth 100000

/-! ### the Builder -/
def Bld (B b : Nat) (l : List UInt8) (w : World) : Prop := Lib.IsBuilder (joinSL_ren.t 72) (joinSL_ren.t 5) B b (Lib.byteCells l) w
theorem Bld.below {B b : Nat} {l : List UInt8} {w W : World} (h : Bld B b l w) (hb : Below w.heap.size w W) : Bld B b l W := by
  rcases h with ⟨h1, v, h2, h3, h4⟩ | ⟨h1, v, h2, h3, h4⟩
  · exact .inl ⟨h1, v, (hb.block b (Array.getElem?_eq_some_iff.1 h2).1).trans h2, owns_below h3 hb, h4⟩
  · exact .inr ⟨h1, v, (hb.block b (Array.getElem?_eq_some_iff.1 h2).1).trans h2, owns_below h3 hb, h4⟩
theorem Bld.fresh (w : World) : Bld w.heap.size w.heap.size [] (w.alloc (.cells #[.pointer none, .slice none 0 0] 145)) := Lib.fresh_isBuilder _ _ w
theorem Bld.len {B b : Nat} {l : List UInt8} {w : World} (h : Bld B b l w) : ∃ a c, w.cell? ⟨b, 1, none⟩ = some (.slice a l.length c) := by
  rcases h with ⟨h1, v, h2, h3, h4⟩ | ⟨h1, v, h2, h3, h4⟩ <;>
  · obtain ⟨a, k, c, rfl⟩ := owns_slice h3
    have hk : k = l.length := by
      rcases h3.2 with ⟨e, h0⟩ | ⟨g, cap, cur, e, _⟩
      · simp only [Value.slice.injEq] at e
        have h5 : l.length = 0 := by rw [← Lib.byteCells_length, h0]
        omega
      · simp only [Value.slice.injEq] at e
        rw [e.2.1, Lib.byteCells_length]
    subst hk
    exact ⟨a, c, by simp [World.cell?, h2]⟩
theorem write_w {B b : Nat} {l : List UInt8} (s : List UInt8) {w : World} (h : Bld B b l w) (hlen : l.length + s.length ≤ 100000000) (hB : B ≤ w.heap.size) :
    Calls prog 109 #[.pointer (some ⟨b, 0, none⟩), .string (bA s)] w fun e w' => e = .returned (.tuple #[.int .i64 (s.length : Int), .nilIface]) ∧ Bld B b (l ++ s) w' ∧ Below B w w' := by
  have hs : (bA s).size = s.length := bA_size s
  refine (Any.Builder_WriteString writeSL joinX B b _ (bA s) w h (by rw [Lib.byteCells_length, hs]; omega) hB).mono ?_
  rintro e w' ⟨rfl, hb, hk⟩
  refine ⟨by rw [hs], .inr ?_, hk⟩
  rw [Lib.byteCells_append]
  exact hb
theorem string_w {B b : Nat} {l : List UInt8} {w : World} (h : Bld B b l w) (hB : B ≤ w.heap.size) : Calls prog 111 #[.pointer (some ⟨b, 0, none⟩)] w fun e w' => e = .returned (.string (bA l)) ∧ Below B w w' :=
  Any.Builder_String_any (ρ := joinSL_ren) ⟨joinSL.mixed, joinSL.f169, joinSL.t0, joinSL.a0, joinSL.z0, joinSL.v0, joinSL.t3, joinSL.a3, joinSL.z3, joinSL.v3, joinSL.t9, joinSL.a9, joinSL.z9, joinSL.v9, joinSL.t37, joinSL.a37, joinSL.z37, joinSL.v37, joinSL.t70, joinSL.a70, joinSL.z70, joinSL.v70, joinSL.t72, joinSL.a72, joinSL.z72, joinSL.v72, joinSL.t127, joinSL.a127, joinSL.z127, joinSL.v127⟩ joinX B b l w h hB

/-! ### plain -/
/-- The bytes of the first plays, each with a line feed. -/
def prAll (p : Nat → PlH) : Nat → List UInt8
  | 0 => []
  | i + 1 => prAll p i ++ (playL (p i).a (p i).e (p i).lx (p i).d (p i).n ++ [10])
theorem chkK_zero {p : Nat → PlH} : ∀ {k i : Nat}, chkK p i k = 0 → ∀ j, j < k → plH (p (i + j)) = 0
  | 0, _, _, j, hj => absurd hj (Nat.not_lt_zero _)
  | k + 1, i, h, j, hj => by
    rw [chkK] at h
    split at h
    · rename_i h0
      cases j with
      | zero => exact h0
      | succ j => have := chkK_zero h j (by omega); rwa [show i + 1 + j = i + (j + 1) by omega] at this
    · rename_i h0; exact absurd h h0
theorem chkL_zero {p : Nat → PlH} {n : Nat} (h : chkL p n = 0) : n ≤ 256 ∧ ∀ i, i < n → plH (p i) = 0 := by
  unfold chkL at h
  split at h
  · cases h
  · exact ⟨by omega, fun i hi => by have := chkK_zero h i hi; rwa [Nat.zero_add] at this⟩

theorem len_w {B b : Nat} {l : List UInt8} {w : World} (h : Bld B b l w) : Calls prog 110 #[.pointer (some ⟨b, 0, none⟩)] w fun e w' => e = .returned (.int .i64 (l.length : Int)) ∧ w' = w := by
  obtain ⟨a, c, h1⟩ := h.len
  go_enter func110, ntmps110
  go_wp2
  go_ret
  exact ⟨rfl, rfl⟩

section
variable {w : World} {p : Nat → PlH} {n : Nat} {v : Value}
/-- What is printed of a list. -/
def prnA (p : Nat → PlH) (n : Nat) : List UInt8 := if chkL p n = 0 then prAll p n else []
theorem prAll_len {p : Nat → PlH} {n : Nat} (h : ∀ i, i < n → PrnP (p i).a.length (p i).e.length (p i).d (p i).n) : ∀ i, i ≤ n → (prAll p i).length ≤ 9000 * i
  | 0, _ => Nat.zero_le _
  | i + 1, hi => by
    have h1 := prAll_len h i (by omega)
    obtain ⟨q1, q2, q3, q4⟩ := h i (by omega)
    have h2 := mvsL_len (d := (p i).d) (n := (p i).n) (fun j hj => (q4 j hj).2) (p i).n (Nat.le_refl _)
    have h3 := length_dashL (p i).a
    have h4 := length_dashL (p i).e
    have h5 : (lateL (p i).lx).length ≤ 5 := by cases (p i).lx <;> simp [lateL]
    rw [prAll, List.length_append, List.length_append]
    unfold playL
    simp only [List.length_append, List.length_cons, List.length_nil]
    omega
theorem plays_prn (hm : IsPlays w v p n) (h : chkL p n = 0) : ∀ i, i < n → PrnP (p i).a.length (p i).e.length (p i).d (p i).n := fun i hi => by
  obtain ⟨b, off, c', ad', k, kc, -, -, hmv, -, -⟩ := hm.at hi
  exact prn_of ((chkL_zero h).2 i hi) (moves_bn hmv)
set_option maxHeartbeats 3200000 in
theorem printAll_w (hL : Laid w) (hm : IsPlays w v p n) (h8 : chkL p n = 0 → n ≤ 8) :
    Calls prog 58 #[v] w fun e w' => e = .returned (.tuple #[.string (bA (prnA p n)), .int .i64 (chkL p n)]) ∧ Below w.heap.size w w' := by
  have cC := checkAll_w hL hm
  have hm0 := hm
  obtain ⟨ad, c, rfl, hnc, -⟩ := hm0
  by_cases h : chkL p n = 0
  · have hn8 := h8 h
    have hP := plays_prn hm h
    have hlen := prAll_len hP
    have e : prnA p n = prAll p n := if_pos h
    rw [e, h]
    rw [h] at cC
    have HP := Lib.hid hP
    have HLen := Lib.hid hlen
    clear e h h8 hP hlen
    go_enter func58, ntmps58
    go_wp2_with fail
    go_at_call 108
    refine cC.mono ?_
    rintro e w1 ⟨rfl, hk1⟩
    clear cC
    have hb1 := hk1.alloc hk1.size (.cells #[.pointer none, .slice none 0 0] 145)
    have hf := Bld.fresh w1
    have hlt : w.heap.size ≤ w1.heap.size := hk1.size
    have hs1 : w1.heap.size ≤ (w1.alloc (.cells #[.pointer none, .slice none 0 0] 145)).heap.size := by simp
    clear hk1
    go_wp2_with fail
    go_loopw [15] (fun s wr => ∃ i : Nat, i ≤ n ∧ s = .int .i64 i ∧ Bld w1.heap.size w1.heap.size (prAll p i) wr ∧ Below w.heap.size w wr ∧ w1.heap.size ≤ wr.heap.size) (fun s _ => n - (numOf' s).toNat)
    case atStart => exact ⟨0, Nat.zero_le _, rfl, hf, hb1, hs1⟩
    case round =>
      clear hf hb1 hs1
      obtain ⟨i, hi, rfl, hf, hb, hs⟩ := hrel
      by_cases hin : i < n
      · obtain ⟨b, off, c', ad', k, kc, e, -, hmv, rfl, c0, c1, c2, c3⟩ := (hm.below hb).at hin
        simp only [Value.slice.injEq, true_and] at e
        obtain ⟨rfl, rfl⟩ := e
        have hal := (Below.refl wr.heap.size wr).alloc (Nat.le_refl _) (.cells #[.string (bA (p i).a), .string (bA (p i).e), .bool (p i).lx, .slice ad' (p i).n kc] 24)
        obtain ⟨q1, q2, q3, q4⟩ := HP.out i hin
        have cT := text_w (l1 := (p i).a) (l2 := (p i).e) (lx := (p i).lx) (by omega) (by omega) (hmv.below hal) (by omega) q4
        obtain ⟨T, hT⟩ : ∃ T, playL (p i).a (p i).e (p i).lx (p i).d (p i).n = T := ⟨_, rfl⟩
        rw [hT] at cT
        have hl1 := HLen.out (i + 1) hin
        have HA : Hid (prAll p (i + 1) = prAll p i ++ (T ++ [10])) := Lib.hid (by rw [prAll, hT])
        rw [HA.out, List.length_append] at hl1
        have hl2 : (bA T).size ≤ 80000 := by rw [bA_size]; rw [List.length_append] at hl1; omega
        have eS : bA T ++ ({ data := #[10] } : ByteArray) = bA (T ++ [10]) := (bA_append T [10]).symm
        have HS := Lib.hid eS
        have hl3 : (prAll p i).length + (T ++ [10]).length ≤ 100000000 := by omega
        have HL3 := Lib.hid hl3
        clear hmv hT hl1 hl3 eS q1 q2 q3 q4 hm
        go_wp2_with fail
        go_at_call 84
        refine cT.mono ?_
        rintro e w2 ⟨rfl, hk2⟩
        have hk := hal.trans (hk2.mono hal.size)
        have hf2 := hf.below hk
        have hb2 := hb.trans (hk.mono hb.size)
        have hs2 := Nat.le_trans hs hk.size
        have cW := write_w (T ++ [10]) hf2 HL3.out hs2
        rw [← HS.out] at cW
        clear cT hal hk hk2 hf hb hs c0 c1 c2 c3
        go_wp2_with fail
        go_at_call 109
        refine cW.mono ?_
        rintro e w3 ⟨rfl, hf3, hk3⟩
        have hb3 := hb2.trans (hk3.mono hlt)
        have hs3 := Nat.le_trans hs2 hk3.size
        rw [← HA.out] at hf3
        clear cW hf2 hb2 hs2 hk3 HA HS HL3
        go_wp2_with fail
        go_roundw
        case rel => exact ⟨i + 1, by omega, by go_num, hf3, hb3, hs3⟩
        case measure => simp [numOf'] <;> omega
      · obtain rfl : i = n := by omega
        have cN := len_w hf
        have cS := string_w hf hs
        have hl1 := HLen.out i (Nat.le_refl _)
        obtain ⟨S, hS⟩ : ∃ S, prAll p i = S := ⟨_, rfl⟩
        rw [hS] at cN cS hl1
        have HS0 := Lib.hid hS
        have hl2 : ¬ (1000000 : Int) < (S.length : Int) := by omega
        clear hS hf hm HP HLen hl1
        go_wp2_with fail
        go_at_call 110
        refine cN.mono ?_
        rintro e w2 ⟨rfl, rfl⟩
        clear cN
        go_wp2_with fail
        go_at_call 111
        refine cS.mono ?_
        rintro e w3 ⟨rfl, hk3⟩
        go_wp2_with fail
        go_ret2
        exact ⟨by rw [HS0.out]; rfl, hb.trans (hk3.mono hlt)⟩
  · have e : prnA p n = [] := if_neg h
    rw [e]
    obtain ⟨q, hq⟩ : ∃ q, chkL p n = q := ⟨_, rfl⟩
    rw [hq] at cC h ⊢
    have h' : (q != 0) = true := by simpa using h
    have eb : bA [] = ({ data := #[] } : ByteArray) := rfl
    rw [eb]
    clear hq e h8 hm eb
    go_enter func58, ntmps58
    go_wp2_with fail
    go_at_call 108
    refine cC.mono ?_
    rintro e w1 ⟨rfl, hk1⟩
    go_wp2_with fail
    go_ret2
    exact ⟨rfl, hk1⟩
end
end Go.Proofs.Tryz

namespace Go.Proofs.Tryz
open Go Go.Am Go.RowKit Go.Dr
set_option maxRecDepth 100000

section
variable {w : World} {p : Nat → PlH} {n : Nat} {v : Value}
set_option maxHeartbeats 3200000 in
theorem printAllR_w (hm : IsPlays w v p n) (hP : ∀ i, i < n → PrnP (p i).a.length (p i).e.length (p i).d (p i).n) (hn8 : n ≤ 8) :
    Calls prog 63 #[v] w fun e w' => e = .returned (.string (bA (prAll p n))) ∧ Below w.heap.size w w' := by
  have hm0 := hm
  obtain ⟨ad, c, rfl, hnc, -⟩ := hm0
  have HLen := Lib.hid (prAll_len hP)
  have HP := Lib.hid hP
  clear hP
  go_enter func63, ntmps63
  go_wp2_with fail
  go_loopw [3, 4] (fun t s wr => ∃ i : Nat, i ≤ n ∧ s = .int .i64 i ∧ t = .string (bA (prAll p i)) ∧ Below w.heap.size w wr) (fun _ s _ => n - (numOf' s).toNat)
  case atStart => exact ⟨0, Nat.zero_le _, rfl, rfl, Below.refl _ _⟩
  case round =>
    obtain ⟨i, hi, rfl, rfl, hb⟩ := hrel
    by_cases hin : i < n
    · obtain ⟨b, off, c', ad', k, kc, e, -, hmv, rfl, c0, c1, c2, c3⟩ := (hm.below hb).at hin
      simp only [Value.slice.injEq, true_and] at e
      obtain ⟨rfl, rfl⟩ := e
      obtain ⟨q1, q2, q3, q4⟩ := HP.out i hin
      have cT := printR_w (l1 := (p i).a) (l2 := (p i).e) (lx := (p i).lx) (by omega) (by omega) hmv (by omega) q4
      obtain ⟨T, hT⟩ : ∃ T, playL (p i).a (p i).e (p i).lx (p i).d (p i).n = T := ⟨_, rfl⟩
      rw [hT] at cT
      have hl1 := HLen.out (i + 1) hin
      have HA : prAll p (i + 1) = prAll p i ++ (T ++ [10]) := by rw [prAll, hT]
      rw [HA, List.length_append, List.length_append] at hl1
      have z2 : (bA T).size ≤ 80000 := by rw [bA_size]; omega
      obtain ⟨A, hA⟩ : ∃ A, prAll p i = A := ⟨_, rfl⟩
      rw [hA] at HA hl1 ⊢
      have z1 : (bA A).size ≤ 80000 := by rw [bA_size]; omega
      have HS : Hid (bA A ++ bA T ++ ({ data := #[10] } : ByteArray) = bA (prAll p (i + 1))) := Lib.hid (by rw [HA, ← List.append_assoc, bA_append]; exact bA_append _ _)
      clear hmv hT hl1 q1 q2 q3 q4 hm HA hA
      go_wp2_with fail
      go_at_call 24
      refine cT.mono ?_
      rintro e w2 ⟨rfl, hk2⟩
      have hb2 := hb.trans (hk2.mono hb.size)
      clear cT hb hk2 c0 c1 c2 c3
      go_wp2_with fail
      go_roundw
      case rel => exact ⟨i + 1, by omega, by go_num, by rw [HS.out], hb2⟩
      case measure => simp [numOf'] <;> omega
    · obtain rfl : i = n := by omega
      clear hm HP HLen
      go_wp2_with fail
      go_ret
      exact ⟨rfl, hb⟩
end
end Go.Proofs.Tryz

namespace Go.Proofs.Tryz
open Go Go.Am Go.RowKit Go.Dr
set_option maxRecDepth 100000

/-- Two plays are the same. -/
def samePl (p q : PlH) : Bool := (((bA p.a).toList == (bA q.a).toList) && ((bA p.e).toList == (bA q.e).toList) && (p.lx == q.lx) && sameN p.d p.n q.d q.n)
section
variable {w : World} {p q : Nat → PlH} {n : Nat} {v v' : Value}
set_option maxHeartbeats 3200000 in
theorem samePlays_w (hm : IsPlays w v p n) (hm' : IsPlays w v' q n) (hn : n ≤ 1000) (hs : ∀ i, i < n → (p i).n ≤ 1000000 ∧ ∀ j, j < (p i).n → ((p i).d j).bn ≤ 1000000) (he : ∀ i, i < n → samePl (p i) (q i) = true) :
    Calls prog 64 #[v, v'] w fun e w' => e = .returned (.bool true) ∧ Below w.heap.size w w' := by
  have hm0 := hm
  obtain ⟨ad, c, rfl, hnc, -⟩ := hm0
  have hm0 := hm'
  obtain ⟨ad', c', rfl, hnc', -⟩ := hm0
  go_enter func64, ntmps64
  go_wp2_with fail
  go_loopw [5] (fun s wr => ∃ i : Nat, i ≤ n ∧ s = .int .i64 i ∧ Below w.heap.size w wr) (fun s _ => n - (numOf' s).toNat)
  case atStart => exact ⟨0, Nat.zero_le _, rfl, Below.refl _ _⟩
  case round =>
    obtain ⟨i, hi, rfl, hb⟩ := hrel
    by_cases hin : i < n
    · obtain ⟨b, off, c1, a1, k1, kc1, e, -, hmv, rfl, x0, x1, x2, x3⟩ := ((hm.below hb).below (Below.refl _ _).drew).at hin
      simp only [Value.slice.injEq, true_and] at e
      obtain ⟨rfl, rfl⟩ := e
      obtain ⟨b', off', c2, a2, k2, kc2, e, -, hmv', rfl, y0, y1, y2, y3⟩ := ((hm'.below hb).below (Below.refl _ _).drew).at hin
      simp only [Value.slice.injEq, true_and] at e
      obtain ⟨rfl, rfl⟩ := e
      have cS := samePlay_w (s1 := bA (p i).a) (s2 := bA (p i).e) (z1 := bA (q i).a) (z2 := bA (q i).e) (lx := (p i).lx) (zx := (q i).lx) hmv hmv' (hs i hin).1 (hs i hin).2
      have e2 := he i hin
      unfold samePl at e2
      rw [e2] at cS
      have hbD := hb.drew
      clear e2 hmv hmv' hm hm' hs he
      go_wp2_with fail
      go_region_with (go_at_call 25; refine cS.mono ?_; rintro e W ⟨rfl, hkk⟩)
      all_goals (go_wp2_with fail; go_roundw)
      all_goals first
        | exact ⟨i + 1, by omega, by go_num, hbD.trans (hkk.mono hbD.size)⟩
        | (simp [numOf'] <;> omega)
    · obtain rfl : i = n := by omega
      clear hm hm' hs he
      go_wp2_with fail
      go_ret
      exact ⟨rfl, hb⟩
end
end Go.Proofs.Tryz

namespace Go.Proofs.Tryz
open Go Go.Am Go.RowKit Go.Dr
set_option maxRecDepth 100000

theorem pAll_lines : ∀ (xs : List (List UInt8)) (i : Nat) (out : List PlH), i + xs.length ≤ 256 → (∀ x ∈ xs, (parL x).e = 0) → pAll i (xs ++ [[]]) out = (out ++ xs.map plR, 0, 0)
  | [], i, out, _, _ => by
    show pAll i [[]] out = _
    rw [pAll, if_pos rfl]; simp
  | x :: xs, i, out, hi, h => by
    have hl : (x :: xs).length = xs.length + 1 := rfl
    obtain ⟨y, z, e⟩ : ∃ y z, xs ++ [[]] = y :: z := by
      cases xs with
      | nil => exact ⟨_, _, rfl⟩
      | cons a b => exact ⟨_, _, rfl⟩
    rw [List.cons_append, e, pAll, if_neg (by omega), if_pos (h x (by simp)), ← e, pAll_lines xs (i + 1) _ (by omega) fun a ha => h a (by simp [ha])]
    simp
theorem spl_lines : ∀ (xs : List (List UInt8)), (∀ x ∈ xs, (10 : UInt8) ∉ x) → spl 10 (xs.map (· ++ [10])).flatten = xs ++ [[]]
  | [], _ => rfl
  | x :: xs, h => by
    rw [List.map_cons, List.flatten_cons, List.append_assoc, List.singleton_append, spl_break (h x (by simp)), spl_lines xs fun y hy => h y (by simp [hy])]
    rfl
/-- The strings of the first plays. -/
def plLs (p : Nat → PlH) (n : Nat) : List (List UInt8) := (List.range n).map fun i => playL (p i).a (p i).e (p i).lx (p i).d (p i).n
theorem prAll_flat (p : Nat → PlH) : ∀ n, prAll p n = ((plLs p n).map (· ++ [10])).flatten
  | 0 => rfl
  | n + 1 => by
    rw [prAll, prAll_flat p n]
    unfold plLs
    rw [List.range_succ, List.map_append, List.map_append, List.flatten_append]
    simp
theorem sameMD_symm {a b : MvD} (h : sameMD a b = true) : sameMD b a = true := by
  unfold sameMD at h ⊢
  simp only [Bool.and_eq_true, decide_eq_true_eq, beq_iff_eq] at h ⊢
  obtain ⟨⟨⟨⟨h1, h2⟩, h3⟩, h4⟩, h5⟩ := h
  exact ⟨⟨⟨⟨h1.symm, h2.symm⟩, h3.symm⟩, h4.symm⟩, h5.symm⟩
/-- All plays are valid. -/
structure AllP (p : Nat → PlH) (n : Nat) : Prop where
  v : ∀ i, i < n → plH (p i) = 0
  b : ∀ i, i < n → ∀ j, j < (p i).n → 0 ≤ ((p i).d j).bn
theorem AllP.back {p : Nat → PlH} {n : Nat} (h : AllP p n) {i : Nat} (hi : i < n) : BackP (p i).a (p i).e (p i).lx (p i).d (p i).n := back_of (h.v i hi) (h.b i hi)
theorem AllP.lines {p : Nat → PlH} {n : Nat} (h : AllP p n) : spl 10 (prAll p n) = plLs p n ++ [[]] := by
  rw [prAll_flat]
  refine spl_lines _ fun x hx => ?_
  unfold plLs at hx
  obtain ⟨i, hi, rfl⟩ := List.mem_map.1 hx
  exact (h.back (List.mem_range.1 hi)).nolf
theorem AllP.len {p : Nat → PlH} {n : Nat} (h : AllP p n) : ∀ i, i ≤ n → (prAll p i).length ≤ 101 * i
  | 0, _ => Nat.zero_le _
  | i + 1, hi => by
    have h1 := h.len i (by omega)
    have h2 := (h.back (i := i) (by omega)).len
    rw [prAll, List.length_append, List.length_append]
    simp only [List.length_cons, List.length_nil]
    omega
theorem AllP.par {p : Nat → PlH} {n : Nat} (h : AllP p n) (hn : n ≤ 256) : ∃ out, parAll (prAll p n) = (out, 0, 0) ∧ out.length = n ∧ ∀ i, i < n → samePl (pOf out i) (p i) = true := by
  refine ⟨(plLs p n).map plR, ?_, by simp [plLs], fun i hi => ?_⟩
  · unfold parAll
    rw [h.lines, pAll_lines]
    · simp
    · simp [plLs]; omega
    · intro x hx
      unfold plLs at hx
      obtain ⟨i, hi, rfl⟩ := List.mem_map.1 hx
      obtain ⟨L, hL, -, -⟩ := (h.back (List.mem_range.1 hi)).par
      rw [hL]
  · obtain ⟨L, hL, hn', hs⟩ := (h.back hi).par
    have e : pOf ((plLs p n).map plR) i = plR (playL (p i).a (p i).e (p i).lx (p i).d (p i).n) := by
      unfold pOf plLs
      simp [hi]
    rw [e]
    unfold plR
    rw [hL]
    unfold samePl
    simp only [bA_inv, beq_self_eq_true, Bool.true_and]
    exact sameN_of hn' fun j hj => sameMD_symm (hs j (by omega))
theorem samePl_refl (p : PlH) : samePl p p = true := by
  unfold samePl
  rw [sameN_of rfl fun i _ => ?_]
  · simp
  · unfold sameMD; simp
/-- A play's own string is no other play's, nor without its last byte. -/
theorem short_not {l : List UInt8} {l1 l2 : List UInt8} {lx : Bool} {d : Nat → MvD} {n : Nat} (hl : l = playL l1 l2 lx d n) (h0 : l ≠ []) (he : (parL l.dropLast).e = 0)
    (h1 : (parL l.dropLast).p.s1.data.toList = l1) (h2 : (parL l.dropLast).p.s2.data.toList = l2) (h3 : (parL l.dropLast).p.lx = lx) (h4 : sameN (dOf (parL l.dropLast).p.L) (parL l.dropLast).p.L.length d n = true) : False := by
  have h := playL_parL he
  rw [h1, h2, h3, playL_same h4, ← hl] at h
  have := congrArg List.length h
  rw [List.length_dropLast] at this
  have : 0 < l.length := List.length_pos_iff.2 h0
  omega
theorem playL_ne (l1 l2 : List UInt8) (lx : Bool) (d : Nat → MvD) (n : Nat) : playL l1 l2 lx d n ≠ [] := fun e => by
  have := congrArg List.length e
  unfold playL at this
  simp at this
end Go.Proofs.Tryz

namespace Go.Proofs.Tryz
open Go Go.Am Go.ChangeShapes Go.WideShapes Go.ChangeAt Go.RowKit
set_option maxRecDepth 100000

section
variable {H : Type} {enc : TypeId × Value → H} {w : World} {base : Nat} {spare : Nat → Bool} {held : Bool} {d : DataW H} {ps : List MemPlace}
theorem plays_arg {r : Reach} {b0 : Nat} {v : Value} (hval : Value.okWide prog w r b0 86 v) (h : DataW.Trod enc prog w base spare held 86 v d ps) : ∃ (p : Nat → PlH) (n : Nat), IsPlays w v p n := by
  simp only [Value.okWide, Cell.okWide, u86] at hval
  obtain ⟨fuel, hf⟩ := h
  cases v with
  | agg cs => simp_all [Cell.ok]
  | _ => exact plays_open (show DataW.trod enc prog w base spare held fuel 86 [_] = some _ from hf)
end
end Go.Proofs.Tryz

namespace Go.Proofs.Tryz
open Go Go.Am Go.RowKit Go.Dr
set_option maxRecDepth 100000

/-- A play whose parts are small. -/
def SmH (p : PlH) : Prop := p.n ≤ 4 ∧ ∀ j, j < p.n → (p.d j).bn ≤ 9
theorem pAll_small : ∀ (z : List (List UInt8)) (i : Nat) (out : List PlH), out.length ≤ i → i ≤ 256 → (∀ q ∈ out, SmH q) → (pAll i z out).1.length ≤ 256 ∧ ∀ q ∈ (pAll i z out).1, SmH q
  | [], i, out, h1, h2, h3 => ⟨by show out.length ≤ 256; omega, h3⟩
  | [x], i, out, h1, h2, h3 => by
    rw [pAll]
    split
    · exact ⟨by show out.length ≤ 256; omega, h3⟩
    · exact ⟨by simp, fun q hq => by simp at hq⟩
  | x :: y :: r, i, out, h1, h2, h3 => by
    rw [pAll]
    split
    · exact ⟨by simp, fun q hq => by simp at hq⟩
    · split
      · refine pAll_small (y :: r) (i + 1) _ (by rw [List.length_append]; simp; omega) (by omega) fun q hq => ?_
        rcases List.mem_append.1 hq with hq | hq
        · exact h3 q hq
        · rw [List.mem_singleton.1 hq]
          exact parL_small x
      · exact ⟨by simp, fun q hq => by simp at hq⟩
theorem parAll_small (l : List UInt8) : (parAll l).1.length ≤ 256 ∧ ∀ i, i < (parAll l).1.length → SmH (pOf (parAll l).1 i) := by
  obtain ⟨h1, h2⟩ := pAll_small (spl 10 l) 0 [] (Nat.le_refl _) (by omega) (fun q hq => by simp at hq)
  refine ⟨h1, fun i hi => h2 _ ?_⟩
  unfold pOf
  rw [List.getElem?_eq_getElem hi]
  exact List.getElem_mem hi
theorem split_len (l : List UInt8) (hl : l.length ≤ 1000000) (w : World) : Calls prog 57 #[.string (bA l), .int .u8 10] w fun e w' => (∃ a c, e = .returned (.slice a (spl 10 l).length c)) ∧ Below w.heap.size w w' := by
  refine (splitR_w l 10 hl w).mono ?_
  rintro e w' ⟨v, rfl, hr, hB⟩
  refine ⟨?_, hB⟩
  rcases hr.2 with ⟨rfl, h0⟩ | ⟨g, cap, cur, rfl, _⟩
  · exact absurd (List.length_eq_zero_iff.1 h0) (spl_ne 10 l)
  · exact ⟨_, _, rfl⟩

section
variable {w : World} {p : Nat → PlH} {n : Nat} {al : Option Addr} {cl : Nat} {l : List UInt8}
theorem texts_no1 (hL : Laid w) (hm : IsPlays w (.slice al n cl) p n) (h : ¬ (¬ ((8 < n ∧ n ≤ 256) ∨ 258 < n) ∧ ∀ i, i < n → ShH (p i))) :
    Calls prog 11 #[.slice al n cl, .string (bA l)] w fun e w' => e = .returned (.bool true) ∧ Below w.heap.size w w' := by
  have cA := awake_w hL
  go_enter func11, ntmps11
  go_wp2_with fail
  go_at_call 13
  refine cA.mono ?_
  rintro e w1 ⟨rfl, hb1⟩
  have cS := shortPlays_w (hm.below hb1) 8 false ⟨fun q => (by cases q), fun q => absurd q h⟩
  clear cA
  go_wp2_with fail
  go_at_call 56
  refine cS.mono ?_
  rintro e w2 ⟨rfl, hk2⟩
  have hb2 := hb1.trans (hk2.mono hb1.size)
  have cA := awake_w (hL.below hb2)
  clear cS
  go_wp2_with fail
  go_at_call 13
  refine cA.mono ?_
  rintro e w3 ⟨rfl, hk3⟩
  go_wp2
  go_ret
  exact ⟨rfl, hb2.trans (hk3.mono hb2.size)⟩
theorem texts_no2 (hL : Laid w) (hm : IsPlays w (.slice al n cl) p n) (h : (¬ ((8 < n ∧ n ≤ 256) ∨ 258 < n) ∧ ∀ i, i < n → ShH (p i))) (h2 : 4000 < l.length) :
    Calls prog 11 #[.slice al n cl, .string (bA l)] w fun e w' => e = .returned (.bool true) ∧ Below w.heap.size w w' := by
  have cA := awake_w hL
  have hs : (bA l).size = l.length := bA_size l
  have h3 : 4000 < (l.length : Int) := by omega
  go_enter func11, ntmps11
  go_wp2_with fail
  go_at_call 13
  refine cA.mono ?_
  rintro e w1 ⟨rfl, hb1⟩
  have cS := shortPlays_w (hm.below hb1) 8 true ⟨fun _ => h, fun _ => rfl⟩
  clear cA
  go_wp2_with fail
  go_at_call 56
  refine cS.mono ?_
  rintro e w2 ⟨rfl, hk2⟩
  have hb2 := hb1.trans (hk2.mono hb1.size)
  have cA := awake_w (hL.below hb2)
  clear cS
  go_wp2_with fail
  go_at_call 13
  refine cA.mono ?_
  rintro e w3 ⟨rfl, hk3⟩
  go_wp2
  go_ret
  exact ⟨rfl, hb2.trans (hk3.mono hb2.size)⟩
theorem texts_no3 (hL : Laid w) (hm : IsPlays w (.slice al n cl) p n) (h : (¬ ((8 < n ∧ n ≤ 256) ∨ 258 < n) ∧ ∀ i, i < n → ShH (p i))) (h2 : ¬ 4000 < l.length) (h4 : 600 < l.length) (h5 : (spl 10 l).length ≤ 256) :
    Calls prog 11 #[.slice al n cl, .string (bA l)] w fun e w' => e = .returned (.bool true) ∧ Below w.heap.size w w' := by
  have cA := awake_w hL
  have hs : (bA l).size = l.length := bA_size l
  have h3 : ¬ 4000 < (l.length : Int) := by omega
  have h6 : 600 < (l.length : Int) := by omega
  have cP := split_len l (by omega)
  obtain ⟨K, hK⟩ : ∃ K, (spl 10 l).length = K := ⟨_, rfl⟩
  rw [hK] at cP h5
  have h7 : (K : Int) ≤ 256 := by omega
  clear hK
  go_enter func11, ntmps11
  go_wp2_with fail
  go_at_call 13
  refine cA.mono ?_
  rintro e w1 ⟨rfl, hb1⟩
  have cS := shortPlays_w (hm.below hb1) 8 true ⟨fun _ => h, fun _ => rfl⟩
  clear cA
  go_wp2_with fail
  go_at_call 56
  refine cS.mono ?_
  rintro e w2 ⟨rfl, hk2⟩
  have hb2 := hb1.trans (hk2.mono hb1.size)
  have cP := cP w2
  clear cS
  go_wp2_with fail
  go_at_call 57
  refine cP.mono ?_
  rintro e w3 ⟨⟨a5, c5, rfl⟩, hk3⟩
  have hb3 := hb2.trans (hk3.mono hb2.size)
  have cA := awake_w (hL.below hb3)
  clear cP
  go_wp2_with fail
  go_at_call 13
  refine cA.mono ?_
  rintro e w4 ⟨rfl, hk4⟩
  go_wp2
  go_ret
  exact ⟨rfl, hb3.trans (hk4.mono hb3.size)⟩

set_option maxHeartbeats 6400000 in
theorem texts_go (hL : Laid w) (hM : MaxL w) (hm : IsPlays w (.slice al n cl) p n) (h : (¬ ((8 < n ∧ n ≤ 256) ∨ 258 < n) ∧ ∀ i, i < n → ShH (p i))) (h2 : ¬ 4000 < l.length) (h4 : ¬ (600 < l.length ∧ (spl 10 l).length ≤ 256)) :
    Calls prog 11 #[.slice al n cl, .string (bA l)] w fun e w' => e = .returned (.bool true) ∧ Below w.heap.size w w' := by
  have cA := awake_w hL
  have hs : (bA l).size = l.length := bA_size l
  have h3 : ¬ 4000 < (l.length : Int) := by omega
  obtain ⟨K, hK⟩ : ∃ K, (spl 10 l).length = K := ⟨_, rfl⟩
  have cP := split_len l (by omega)
  rw [hK] at cP h4
  have h56 : ¬ (600 < (l.length : Int)) ∨ ((600 < (l.length : Int)) ∧ ¬ (K : Int) ≤ 256) := by omega
  have hsm : ∀ i, i < n → (p i).n ≤ 6 ∧ ∀ j, j < (p i).n → ((p i).d j).bn ≤ 40 := fun i hi => by
    have := h.2 i hi
    exact ⟨this.2.2.1, fun j hj => (this.2.2.2 j hj).2⟩
  have h8 : chkL p n = 0 → n ≤ 8 := fun e => by
    have := (chkL_zero e).1
    have := h.1
    omega
  have hPrn := plays_prn hm
  obtain ⟨⟨outs, at', er⟩, hR⟩ : ∃ R, parAll l = R := ⟨_, rfl⟩
  have hS := parAll_small l
  rw [hR] at hS
  replace hS : outs.length ≤ 256 ∧ ∀ i, i < outs.length → SmH (pOf outs i) := hS
  have c60 : ∀ W, Below w.heap.size w W → Calls prog 60 #[.string (bA l)] W fun e w' => (∃ a c, e = .returned (.tuple #[.slice a outs.length c, .int .i64 (at' : Int), .int .i64 er]) ∧ IsPlays w' (.slice a outs.length c) (pOf outs) outs.length) ∧ Below W.heap.size W w' := fun W hW => by
    refine (parseAll_w l (by omega) W (hL.below hW) (hM.below hW)).mono ?_
    rintro e w' ⟨hA, hB⟩
    unfold AllAns at hA
    rw [hR] at hA
    obtain ⟨v, rfl, hv⟩ := hA
    have hv0 := hv
    obtain ⟨a, c, rfl, -, -⟩ := hv
    exact ⟨⟨a, c, rfl, hv0⟩, hB⟩
  have c62 : ∀ W, Below w.heap.size w W → Calls prog 62 #[.string (bA l)] W fun e w' => (∃ a c, e = .returned (.tuple #[.slice a outs.length c, .int .i64 (at' : Int), .int .i64 er]) ∧ IsPlays w' (.slice a outs.length c) (pOf outs) outs.length) ∧ Below W.heap.size W w' := fun W hW => by
    refine (parseAllR_w l (by omega) W (hL.below hW)).mono ?_
    rintro e w' ⟨hA, hB⟩
    unfold AllAns at hA
    rw [hR] at hA
    obtain ⟨v, rfl, hv⟩ := hA
    have hv0 := hv
    obtain ⟨a, c, rfl, -, -⟩ := hv
    exact ⟨⟨a, c, rfl, hv0⟩, hB⟩
  have c64 : ∀ W a c a' c', IsPlays W (.slice a outs.length c) (pOf outs) outs.length → IsPlays W (.slice a' outs.length c') (pOf outs) outs.length → Calls prog 64 #[.slice a outs.length c, .slice a' outs.length c'] W fun e w' => e = .returned (.bool true) ∧ Below W.heap.size W w' := fun W a c a' c' g1 g2 =>
    samePlays_w g1 g2 (by have := hS.1; omega) (fun i hi => ⟨by have := (hS.2 i hi).1; omega, fun j hj => by have := (hS.2 i hi).2 j hj; omega⟩) (fun i _ => samePl_refl _)
  have c59 : ∀ W, Below w.heap.size w W → Calls prog 59 #[.slice al n cl] W fun e w' => (∃ a c, e = .returned (.slice a n c) ∧ IsPlays w' (.slice a n c) p n) ∧ Below W.heap.size W w' := fun W hW => by
    refine (copyPlays_w (hm.below hW) (by have := h.1; omega) hsm).mono ?_
    rintro e w' ⟨⟨u, rfl, hu⟩, hB⟩
    have hp := hu.plays
    rw [List.length_map, List.length_range] at hp
    have hp := hp.congr (pOf_range p n)
    have hp0 := hp
    obtain ⟨a, c, rfl, -, -⟩ := hp
    exact ⟨⟨a, c, rfl, hp0⟩, hB⟩
  obtain ⟨q, hq⟩ : ∃ q, chkL p n = q := ⟨_, rfl⟩
  obtain ⟨S, hSS⟩ : ∃ S, prnA p n = S := ⟨_, rfl⟩
  have c58 : ∀ W a c, Below w.heap.size w W → IsPlays W (.slice a n c) p n → Calls prog 58 #[.slice a n c] W fun e w' => e = .returned (.tuple #[.string (bA S), .int .i64 q]) ∧ Below W.heap.size W w' := fun W a c hW g => by
    rw [← hSS, ← hq]
    exact printAll_w (hL.below hW) g h8
  have c61 : ∀ W, Below w.heap.size w W → Calls prog 61 #[.slice al n cl] W fun e w' => e = .returned (.int .i64 q) ∧ Below W.heap.size W w' := fun W hW => by
    rw [← hq]
    exact checkPlays_w (hL.below hW) (hm.below hW)
  have c63 : q = 0 → ∀ W, Below w.heap.size w W → Calls prog 63 #[.slice al n cl] W fun e w' => e = .returned (.string (bA S)) ∧ Below W.heap.size W w' := fun e W hW => by
    have e' : chkL p n = 0 := hq.trans e
    have eS : S = prAll p n := by rw [← hSS]; exact if_pos e'
    rw [eS]
    exact printAllR_w (hm.below hW) (hPrn e') (h8 e')
  have HS : Hid (q ≠ 0 → S = []) := Lib.hid fun e => by
    rw [← hSS]; exact if_neg (fun e' => e (hq.symm.trans e'))
  have HC63 := Lib.hid c63
  have hsh : ∀ W, Below w.heap.size w W → Calls prog 56 #[.slice al n cl, .int .i64 8] W fun e w' => e = .returned (.bool true) ∧ Below W.heap.size W w' := fun W hW => shortPlays_w (hm.below hW) 8 true ⟨fun _ => h, fun _ => rfl⟩
  clear hSS hq c63 hPrn h8 hsm hS hR h4 hK h2 hM hm h
  go_enter func11, ntmps11
  go_wp2_with fail
  go_at_call 13
  refine cA.mono ?_
  rintro e w1 ⟨rfl, hb1⟩
  have cS := hsh w1 hb1
  clear cA hsh
  go_wp2_with fail
  go_at_call 56
  refine cS.mono ?_
  rintro e w2 ⟨rfl, hk2⟩
  have hb2 := hb1.trans (hk2.mono hb1.size)
  clear cS hk2 hb1
  rcases h56 with h5 | ⟨h5, h6⟩
  · have hb3 := hb2
    clear hb2 cP
    have cC := c59 _ hb3
    go_wp2_with fail
    go_at_call 59
    refine cC.mono ?_
    rintro e w4 ⟨⟨a4, k4, rfl, hp4⟩, hk4⟩
    have hb4 := hb3.trans (hk4.mono hb3.size)
    have cD := c58 _ _ _ hb4 hp4
    clear cC hk4 hb3 hp4
    go_wp2_with fail
    go_at_call 58
    refine cD.mono ?_
    rintro e w5 ⟨rfl, hk5⟩
    have hb5 := hb4.trans (hk5.mono hb4.size)
    have cE := c60 _ hb5
    clear cD hk5 hb4
    go_wp2_with fail
    go_at_call 60
    refine cE.mono ?_
    rintro e w6 ⟨⟨a6, k6, rfl, hp6⟩, hk6⟩
    have hb6 := hb5.trans (hk6.mono hb5.size)
    have cF := c61 _ hb6
    clear cE hk6 hb5
    go_wp2_with fail
    go_at_call 61
    refine cF.mono ?_
    rintro e w7 ⟨rfl, hk7⟩
    have hb7 := hb6.trans (hk7.mono hb6.size)
    have hp7 := hp6.below hk7
    have cG := c62 _ hb7
    clear cF hk7 hb6 hp6
    go_wp2_with fail
    go_at_call 62
    refine cG.mono ?_
    rintro e w8 ⟨⟨a8, k8, rfl, hp8⟩, hk8⟩
    have hb8 := hb7.trans (hk8.mono hb7.size)
    have hp9 := hp7.below hk8
    clear cG hk8 hb7 hp7
    by_cases h0 : q = 0
    · have cH := HC63.out h0 _ hb8
      subst h0
      clear HC63 HS
      go_wp2_with fail
      go_at_call 63
      refine cH.mono ?_
      rintro e w9 ⟨rfl, hk9⟩
      have hbA := hb8.trans (hk9.mono hb8.size)
      have cI := c64 _ _ _ _ _ (hp9.below hk9) (hp8.below hk9)
      clear cH hk9 hb8 hp9 hp8
      go_wp2_with fail
      go_at_call 64
      refine cI.mono ?_
      rintro e wB ⟨rfl, hkB⟩
      go_wp2
      go_ret
      exact ⟨by first | rfl | simp, hbA.trans (hkB.mono hbA.size)⟩
    · have hS0 := HS.out h0
      subst hS0
      have eb : bA [] = ({ data := #[] } : ByteArray) := rfl
      rw [eb]
      have cI := c64 _ _ _ _ _ hp9 hp8
      clear HC63 HS eb
      go_wp2_with fail
      go_at_call 64
      refine cI.mono ?_
      rintro e wB ⟨rfl, hkB⟩
      go_wp2
      go_ret
      exact ⟨by first | rfl | simp, hb8.trans (hkB.mono hb8.size)⟩
  · have cP := cP w2
    go_wp2_with fail
    go_at_call 57
    refine cP.mono ?_
    rintro e w3 ⟨⟨a5, c5, rfl⟩, hk3⟩
    have hb3 := hb2.trans (hk3.mono hb2.size)
    clear cP hk3 hb2
    have cC := c59 _ hb3
    go_wp2_with fail
    go_at_call 59
    refine cC.mono ?_
    rintro e w4 ⟨⟨a4, k4, rfl, hp4⟩, hk4⟩
    have hb4 := hb3.trans (hk4.mono hb3.size)
    have cD := c58 _ _ _ hb4 hp4
    clear cC hk4 hb3 hp4
    go_wp2_with fail
    go_at_call 58
    refine cD.mono ?_
    rintro e w5 ⟨rfl, hk5⟩
    have hb5 := hb4.trans (hk5.mono hb4.size)
    have cE := c60 _ hb5
    clear cD hk5 hb4
    go_wp2_with fail
    go_at_call 60
    refine cE.mono ?_
    rintro e w6 ⟨⟨a6, k6, rfl, hp6⟩, hk6⟩
    have hb6 := hb5.trans (hk6.mono hb5.size)
    have cF := c61 _ hb6
    clear cE hk6 hb5
    go_wp2_with fail
    go_at_call 61
    refine cF.mono ?_
    rintro e w7 ⟨rfl, hk7⟩
    have hb7 := hb6.trans (hk7.mono hb6.size)
    have hp7 := hp6.below hk7
    have cG := c62 _ hb7
    clear cF hk7 hb6 hp6
    go_wp2_with fail
    go_at_call 62
    refine cG.mono ?_
    rintro e w8 ⟨⟨a8, k8, rfl, hp8⟩, hk8⟩
    have hb8 := hb7.trans (hk8.mono hb7.size)
    have hp9 := hp7.below hk8
    clear cG hk8 hb7 hp7
    by_cases h0 : q = 0
    · have cH := HC63.out h0 _ hb8
      subst h0
      clear HC63 HS
      go_wp2_with fail
      go_at_call 63
      refine cH.mono ?_
      rintro e w9 ⟨rfl, hk9⟩
      have hbA := hb8.trans (hk9.mono hb8.size)
      have cI := c64 _ _ _ _ _ (hp9.below hk9) (hp8.below hk9)
      clear cH hk9 hb8 hp9 hp8
      go_wp2_with fail
      go_at_call 64
      refine cI.mono ?_
      rintro e wB ⟨rfl, hkB⟩
      go_wp2
      go_ret
      exact ⟨by first | rfl | simp, hbA.trans (hkB.mono hbA.size)⟩
    · have hS0 := HS.out h0
      subst hS0
      have eb : bA [] = ({ data := #[] } : ByteArray) := rfl
      rw [eb]
      have cI := c64 _ _ _ _ _ hp9 hp8
      clear HC63 HS eb
      go_wp2_with fail
      go_at_call 64
      refine cI.mono ?_
      rintro e wB ⟨rfl, hkB⟩
      go_wp2
      go_ret
      exact ⟨by first | rfl | simp, hb8.trans (hkB.mono hb8.size)⟩
theorem texts_law {lv : Value} {s : ByteArray} (hL : Laid w) (hM : MaxL w) (hm : IsPlays w lv p n) :
    Calls prog 11 #[lv, .string s] w fun e w' => e = .returned (.bool true) ∧ Below w.heap.size w w' := by
  have hm1 := hm
  obtain ⟨a, c, rfl, -, -⟩ := hm1
  rw [← bA_data s]
  by_cases h : (¬ ((8 < n ∧ n ≤ 256) ∨ 258 < n) ∧ ∀ i, i < n → ShH (p i))
  · by_cases h2 : 4000 < s.data.toList.length
    · exact texts_no2 hL hm h h2
    · by_cases h3 : 600 < s.data.toList.length ∧ (spl 10 s.data.toList).length ≤ 256
      · exact texts_no3 hL hm h h2 h3.1 h3.2
      · exact texts_go hL hM hm h h2 h3
  · exact texts_no1 hL hm h
end
end Go.Proofs.Tryz
