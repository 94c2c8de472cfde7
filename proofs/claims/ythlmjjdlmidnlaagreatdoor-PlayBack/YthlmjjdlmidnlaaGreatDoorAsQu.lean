/- A move printed by the reference: by the kit's walk. A play printed by the reference: by the kit's walk. Strings: the shelf's contracts at this program, in plain words (written by the shelf's plain mode). A play printed by the program: by the kit's walk; strings.Join by the shelf. Print of the reference: by the kit's walk. -/
import Derived.Test.YthlmjjdlmidnlaaGreatDoorAsPu
import Derived.Shelf.Strings.OnBuilder
import Derived.Shelf.Strings.Split
import Derived.Shelf.Strings.SlTrimAscii
import Derived.Shelf.Strings.Search3
import Derived.Shelf.Small.Wraps
import Derived.Ground.NamesProg
import Derived.Test.YthlmjjdlmidnlaaGreatDoorProg
namespace Go.Proofs.Tryz
open Go Go.Am Go.RowKit Go.Dr
set_option maxRecDepth 100000

/-- The colon and the bytes of the first touches. -/
def colD (m : MvD) (i : Nat) : List UInt8 := (if i = 0 then [] else [58]) ++ digs m i
theorem colD_succ (m : MvD) (i : Nat) : colD m (i + 1) = [58] ++ digs m (i + 1) := by simp [colD]

set_option maxHeartbeats 1600000 in
theorem printMoveR_w {w : World} {c : M5} {m : MvD} (hm : M5Ok w c m) (hd : DigM m) (hn : m.bn ≤ 1000) (hsn : m.sn ≤ 1000) :
    Calls prog 91 #[.agg #[.int .i64 c.f1, .int .i64 c.f2, .bool c.xb, .string c.s, .slice c.a c.k c.c]] w fun e w' => e = .returned (.string (bA (moveL m))) ∧ Below w.heap.size w w' := by
  obtain ⟨f1, f2, xb, s, a, k, cc⟩ := c
  obtain ⟨h1, h2, h3, h4, h5⟩ := hm
  dsimp only at h1 h2 h3 h4 h5 ⊢
  obtain ⟨⟨d1, d2⟩, ⟨d3, d4⟩, d5⟩ := hd
  have hk := ints_len h5
  have eT : tchs m = intsL m.t m.bo k := by unfold tchs; rw [← hk, Int.toNat_natCast]
  have hs := bA_str h4
  have hsz : (s.size : Int) ≤ 1000 := by have := str_size h4; omega
  have hB : Below w.heap.size w (w.alloc (.cells #[.int .i64 f1, .int .i64 f2, .bool xb, .string s, .slice a k cc] 27)) := (Below.refl _ _).alloc (Nat.le_refl _) _
  have hx0 := at_new w #[.int .i64 f1, .int .i64 f2, .bool xb, .string s, .slice a k cc] 27
  rw [← h1] at d1 d2
  rw [← h2] at d3 d4
  have Hm : Hid ((f1 = m.fr ∧ f2 = m.to ∧ xb = decide (m.x ≠ 0)) ∧ s = bA (strL m.y m.so m.sn) ∧ tchs m = intsL m.t m.bo k ∧ (k : Int) = m.bn) := Lib.hid ⟨⟨h1, h2, h3⟩, hs, eT, hk⟩
  clear h1 h2 h3 h4 hs eT hk
  cases xb with
  | false =>
    go_enter func91, ntmps91
    go_wp2_with fail
    generalize w.alloc (.cells #[.int .i64 f1, .int .i64 f2, .bool false, .string s, .slice a k cc] 27) = W0 at hB hx0 ⊢
    obtain ⟨⟨x0, x1, x2, x3, x4⟩, -⟩ := box5 hx0
    have hdr : Below W0.heap.size W0 W0.drew := (Below.refl _ _).drew
    have hxD : At W0.drew w.heap.size #[.int .i64 f1, .int .i64 f2, .bool false, .string s, .slice a k cc] 27 := hx0
    have hbD := hB.drew
    have y1 : (bA [dgB f1]).size = 1 := rfl
    have y2 : (bA [dgB f2]).size = 1 := rfl
    have hl0 : ¬ (9223372036854775807 < 3 + s.size) := by omega
    go_region_held3 (fun W => W.cell? ⟨w.heap.size, 0, none⟩ = some (.int .i64 f1) ∧ W.cell? ⟨w.heap.size, 1, none⟩ = some (.int .i64 f2) ∧ W.cell? ⟨w.heap.size, 3, none⟩ = some (.string s) ∧ W.cell? ⟨w.heap.size, 4, none⟩ = some (.slice a k cc) ∧ Below W0.heap.size W0 W)
      (go_keep)
      (first
        | (go_at_call 132; refine Calls.mono (textR_w _ (by assumption) (by assumption) _) ?_; rintro e W ⟨rfl, rfl⟩))
    clear x0 x1 x2 x3 x4 hx0 hB hdr y1 y2 hl0
    generalize W0.drew = W at hxD hbD ⊢
    obtain ⟨⟨x0, x1, x2, x3, x4⟩, -⟩ := box5 hxD
    have hmk : (if m.x = 0 then (45 : UInt8) else 120) = 45 := by
      have h := Hm.out.1.2.2
      by_cases hx : m.x = 0
      · simp [hx] at h ⊢
      · simp [hx] at h ⊢
    obtain ⟨S0, hS0⟩ : ∃ S0 : ByteArray, bA [dgB f1] ++ { data := #[45] } ++ bA [dgB f2] ++ s = S0 := ⟨_, rfl⟩
    rw [hS0]
    obtain ⟨pre, hpre⟩ : ∃ pre, pre = [dgB m.fr] ++ [if m.x = 0 then 45 else 120] ++ [dgB m.to] ++ strL m.y m.so m.sn := ⟨_, rfl⟩
    have HP := Lib.hid hpre
    have HS0 : Hid (S0 = bA pre) := Lib.hid (by
      rw [hpre, ← hS0, hmk, ← Hm.out.1.1, ← Hm.out.1.2.1, Hm.out.2.1, ← bA_append, ← bA_append, ← bA_append]; rfl)
    have hz0 : (S0.size : Int) ≤ 1003 := by
      have e : S0.size = 1 + 1 + 1 + s.size := by rw [← hS0]; simp [ByteArray.size_append, bA]; rfl
      omega
    clear hS0 hmk hpre
    have hkm : (k : Int) ≤ 1000 := by have := Hm.out.2.2.2; omega
    go_wp2_with fail
    go_loopw [4, 5] (fun t z wr => ∃ (i : Nat), i ≤ k ∧ z = .int .i64 i ∧ StrIs t (pre ++ colD m i) (1004 + 2 * i) ∧ At wr w.heap.size #[.int .i64 f1, .int .i64 f2, .bool false, .string s, .slice a k cc] 27 ∧ Below w.heap.size w wr) (fun _ z _ => k - (numOf' z).toNat)
    case atStart => exact ⟨0, Nat.zero_le _, rfl, ⟨S0, rfl, by rw [HS0.out]; simp [colD, digs], by omega⟩, hxD, hbD⟩
    case round =>
      clear x0 x1 x2 x3 x4 hxD hbD HS0 hz0
      obtain ⟨i, hi, rfl, ⟨S, rfl, hSe, hzS⟩, hx, hbel⟩ := hrel
      obtain ⟨⟨-, -, -, -, x4⟩, -⟩ := box5 hx
      have HS := Lib.hid hSe
      clear hSe
      by_cases hin : i < k
      · obtain ⟨b, off, rfl, hj⟩ := ints_at h5 (by omega)
        have hT : (tchs m)[i]? = some (m.t (m.bo + (i : Int))) := by rw [Hm.out.2.2.1]; exact intsL_get hin
        have hd9 := d5 _ (List.mem_iff_getElem?.2 ⟨i, hT⟩)
        have p0 : wr.cell? ⟨b, off + i, none⟩ = some (.int .i64 (m.t (m.bo + (i : Int)))) := cell_b (hj i hin) hbel (cell_under (hj i hin))
        have HD : Hid (digs m (i + 1) = digs m i ++ [dgB (m.t (m.bo + (i : Int)))]) := Lib.hid (by rw [digs, digs, List.take_add_one, hT]; simp)
        clear hj d5 hT
        obtain ⟨z, hz⟩ : ∃ z, m.t (m.bo + (i : Int)) = z := ⟨_, rfl⟩
        rw [hz] at p0 hd9 HD
        have y1 : (bA [dgB z]).size = 1 := rfl
        clear hz
        cases i with
        | zero =>
          have hl1 : ¬ (9223372036854775807 < S.size + 1) := by omega
          have hzC : ((S ++ { data := #[58] } : ByteArray).size : Int) ≤ 1005 := by
            have e : (S ++ { data := #[58] } : ByteArray).size = S.size + 1 := by simp [ByteArray.size_append]; rfl
            omega
          have HC : Hid (S ++ { data := #[58] } ++ bA [dgB z] = bA (pre ++ colD m (0 + 1))) := Lib.hid (by
            rw [HS.out, colD_succ m 0, HD.out]
            have e : (bA (pre ++ colD m 0) ++ { data := #[58] } : ByteArray) = bA (pre ++ colD m 0) ++ bA [58] := rfl
            rw [e, bA_append, bA_append]
            simp [colD, digs])
          have hzz : ((S ++ { data := #[58] } ++ bA [dgB z] : ByteArray).size : Int) ≤ 1004 + 2 * ((0 + 1 : Nat) : Int) := by
            have e : (S ++ { data := #[58] } ++ bA [dgB z] : ByteArray).size = (S ++ { data := #[58] } : ByteArray).size + 1 := by rw [ByteArray.size_append]; rfl
            have e2 : (S ++ { data := #[58] } : ByteArray).size = S.size + 1 := by simp [ByteArray.size_append]; rfl
            omega
          have hl2 : ¬ (9223372036854775807 < S.size + 1 + 1) := by omega
          rw [Nat.add_zero] at p0
          go_wp2_with fail
          go_at_call 132
          refine (textR_w z hd9.1 hd9.2 _).mono ?_
          rintro e w2 ⟨rfl, rfl⟩
          go_wp2
          go_roundw
          case rel => exact ⟨0 + 1, by omega, by go_num, ⟨_, rfl, HC.out, hzz⟩, hx, hbel⟩
          case measure => simp [numOf'] <;> omega
        | succ j =>
          have hl1 : ¬ (9223372036854775807 < S.size + 1) := by omega
          have hne : ((j : Int) + 1 == 0) = false := by simp; omega
          have hne2 : ¬ ((j : Int) + 1 = 0) := by omega
          have HC : Hid (S ++ bA [dgB z] = bA (pre ++ colD m (j + 1 + 1))) := Lib.hid (by
            rw [HS.out, bA_append, colD_succ m (j + 1), colD_succ m j, HD.out]
            simp)
          have hzz : ((S ++ bA [dgB z] : ByteArray).size : Int) ≤ 1004 + 2 * ((j + 1 + 1 : Nat) : Int) := by
            have e : (S ++ bA [dgB z] : ByteArray).size = S.size + 1 := by rw [ByteArray.size_append]; rfl
            omega
          go_wp2_with fail
          go_at_call 132
          refine (textR_w z hd9.1 hd9.2 _).mono ?_
          rintro e w2 ⟨rfl, rfl⟩
          go_wp2
          go_roundw
          case rel => exact ⟨j + 1 + 1, by omega, by go_num, ⟨_, rfl, HC.out, hzz⟩, hx, hbel⟩
          case measure => simp [numOf'] <;> omega
      · obtain rfl : i = k := by omega
        go_wp2
        go_ret
        refine ⟨?_, hbel⟩
        have hl : (tchs m).length = i := by rw [Hm.out.2.2.1, length_intsL]
        have e : pre ++ colD m i = moveL m := by
          rw [HP.out]
          unfold moveL colD digs
          rw [List.take_of_length_le (by omega), hl]
          by_cases h0 : i = 0
          · simp [h0]
          · simp [h0]
        rw [HS.out, e]
        rfl
  | true =>
    go_enter func91, ntmps91
    go_wp2_with fail
    generalize w.alloc (.cells #[.int .i64 f1, .int .i64 f2, .bool true, .string s, .slice a k cc] 27) = W0 at hB hx0 ⊢
    obtain ⟨⟨x0, x1, x2, x3, x4⟩, -⟩ := box5 hx0
    have hdr : Below W0.heap.size W0 W0.drew := (Below.refl _ _).drew
    have hxD : At W0.drew w.heap.size #[.int .i64 f1, .int .i64 f2, .bool true, .string s, .slice a k cc] 27 := hx0
    have hbD := hB.drew
    have y1 : (bA [dgB f1]).size = 1 := rfl
    have y2 : (bA [dgB f2]).size = 1 := rfl
    have hl0 : ¬ (9223372036854775807 < 3 + s.size) := by omega
    go_region_held3 (fun W => W.cell? ⟨w.heap.size, 0, none⟩ = some (.int .i64 f1) ∧ W.cell? ⟨w.heap.size, 1, none⟩ = some (.int .i64 f2) ∧ W.cell? ⟨w.heap.size, 3, none⟩ = some (.string s) ∧ W.cell? ⟨w.heap.size, 4, none⟩ = some (.slice a k cc) ∧ Below W0.heap.size W0 W)
      (go_keep)
      (first
        | (go_at_call 132; refine Calls.mono (textR_w _ (by assumption) (by assumption) _) ?_; rintro e W ⟨rfl, rfl⟩))
    clear x0 x1 x2 x3 x4 hx0 hB hdr y1 y2 hl0
    generalize W0.drew = W at hxD hbD ⊢
    obtain ⟨⟨x0, x1, x2, x3, x4⟩, -⟩ := box5 hxD
    have hmk : (if m.x = 0 then (45 : UInt8) else 120) = 120 := by
      have h := Hm.out.1.2.2
      by_cases hx : m.x = 0
      · simp [hx] at h ⊢
      · simp [hx] at h ⊢
    obtain ⟨S0, hS0⟩ : ∃ S0 : ByteArray, bA [dgB f1] ++ { data := #[120] } ++ bA [dgB f2] ++ s = S0 := ⟨_, rfl⟩
    rw [hS0]
    obtain ⟨pre, hpre⟩ : ∃ pre, pre = [dgB m.fr] ++ [if m.x = 0 then 45 else 120] ++ [dgB m.to] ++ strL m.y m.so m.sn := ⟨_, rfl⟩
    have HP := Lib.hid hpre
    have HS0 : Hid (S0 = bA pre) := Lib.hid (by
      rw [hpre, ← hS0, hmk, ← Hm.out.1.1, ← Hm.out.1.2.1, Hm.out.2.1, ← bA_append, ← bA_append, ← bA_append]; rfl)
    have hz0 : (S0.size : Int) ≤ 1003 := by
      have e : S0.size = 1 + 1 + 1 + s.size := by rw [← hS0]; simp [ByteArray.size_append, bA]; rfl
      omega
    clear hS0 hmk hpre
    have hkm : (k : Int) ≤ 1000 := by have := Hm.out.2.2.2; omega
    go_wp2_with fail
    go_loopw [4, 5] (fun t z wr => ∃ (i : Nat), i ≤ k ∧ z = .int .i64 i ∧ StrIs t (pre ++ colD m i) (1004 + 2 * i) ∧ At wr w.heap.size #[.int .i64 f1, .int .i64 f2, .bool true, .string s, .slice a k cc] 27 ∧ Below w.heap.size w wr) (fun _ z _ => k - (numOf' z).toNat)
    case atStart => exact ⟨0, Nat.zero_le _, rfl, ⟨S0, rfl, by rw [HS0.out]; simp [colD, digs], by omega⟩, hxD, hbD⟩
    case round =>
      clear x0 x1 x2 x3 x4 hxD hbD HS0 hz0
      obtain ⟨i, hi, rfl, ⟨S, rfl, hSe, hzS⟩, hx, hbel⟩ := hrel
      obtain ⟨⟨-, -, -, -, x4⟩, -⟩ := box5 hx
      have HS := Lib.hid hSe
      clear hSe
      by_cases hin : i < k
      · obtain ⟨b, off, rfl, hj⟩ := ints_at h5 (by omega)
        have hT : (tchs m)[i]? = some (m.t (m.bo + (i : Int))) := by rw [Hm.out.2.2.1]; exact intsL_get hin
        have hd9 := d5 _ (List.mem_iff_getElem?.2 ⟨i, hT⟩)
        have p0 : wr.cell? ⟨b, off + i, none⟩ = some (.int .i64 (m.t (m.bo + (i : Int)))) := cell_b (hj i hin) hbel (cell_under (hj i hin))
        have HD : Hid (digs m (i + 1) = digs m i ++ [dgB (m.t (m.bo + (i : Int)))]) := Lib.hid (by rw [digs, digs, List.take_add_one, hT]; simp)
        clear hj d5 hT
        obtain ⟨z, hz⟩ : ∃ z, m.t (m.bo + (i : Int)) = z := ⟨_, rfl⟩
        rw [hz] at p0 hd9 HD
        have y1 : (bA [dgB z]).size = 1 := rfl
        clear hz
        cases i with
        | zero =>
          have hl1 : ¬ (9223372036854775807 < S.size + 1) := by omega
          have hzC : ((S ++ { data := #[58] } : ByteArray).size : Int) ≤ 1005 := by
            have e : (S ++ { data := #[58] } : ByteArray).size = S.size + 1 := by simp [ByteArray.size_append]; rfl
            omega
          have HC : Hid (S ++ { data := #[58] } ++ bA [dgB z] = bA (pre ++ colD m (0 + 1))) := Lib.hid (by
            rw [HS.out, colD_succ m 0, HD.out]
            have e : (bA (pre ++ colD m 0) ++ { data := #[58] } : ByteArray) = bA (pre ++ colD m 0) ++ bA [58] := rfl
            rw [e, bA_append, bA_append]
            simp [colD, digs])
          have hzz : ((S ++ { data := #[58] } ++ bA [dgB z] : ByteArray).size : Int) ≤ 1004 + 2 * ((0 + 1 : Nat) : Int) := by
            have e : (S ++ { data := #[58] } ++ bA [dgB z] : ByteArray).size = (S ++ { data := #[58] } : ByteArray).size + 1 := by rw [ByteArray.size_append]; rfl
            have e2 : (S ++ { data := #[58] } : ByteArray).size = S.size + 1 := by simp [ByteArray.size_append]; rfl
            omega
          have hl2 : ¬ (9223372036854775807 < S.size + 1 + 1) := by omega
          rw [Nat.add_zero] at p0
          go_wp2_with fail
          go_at_call 132
          refine (textR_w z hd9.1 hd9.2 _).mono ?_
          rintro e w2 ⟨rfl, rfl⟩
          go_wp2
          go_roundw
          case rel => exact ⟨0 + 1, by omega, by go_num, ⟨_, rfl, HC.out, hzz⟩, hx, hbel⟩
          case measure => simp [numOf'] <;> omega
        | succ j =>
          have hl1 : ¬ (9223372036854775807 < S.size + 1) := by omega
          have hne : ((j : Int) + 1 == 0) = false := by simp; omega
          have hne2 : ¬ ((j : Int) + 1 = 0) := by omega
          have HC : Hid (S ++ bA [dgB z] = bA (pre ++ colD m (j + 1 + 1))) := Lib.hid (by
            rw [HS.out, bA_append, colD_succ m (j + 1), colD_succ m j, HD.out]
            simp)
          have hzz : ((S ++ bA [dgB z] : ByteArray).size : Int) ≤ 1004 + 2 * ((j + 1 + 1 : Nat) : Int) := by
            have e : (S ++ bA [dgB z] : ByteArray).size = S.size + 1 := by rw [ByteArray.size_append]; rfl
            omega
          go_wp2_with fail
          go_at_call 132
          refine (textR_w z hd9.1 hd9.2 _).mono ?_
          rintro e w2 ⟨rfl, rfl⟩
          go_wp2
          go_roundw
          case rel => exact ⟨j + 1 + 1, by omega, by go_num, ⟨_, rfl, HC.out, hzz⟩, hx, hbel⟩
          case measure => simp [numOf'] <;> omega
      · obtain rfl : i = k := by omega
        go_wp2
        go_ret
        refine ⟨?_, hbel⟩
        have hl : (tchs m).length = i := by rw [Hm.out.2.2.1, length_intsL]
        have e : pre ++ colD m i = moveL m := by
          rw [HP.out]
          unfold moveL colD digs
          rw [List.take_of_length_le (by omega), hl]
          by_cases h0 : i = 0
          · simp [h0]
          · simp [h0]
        rw [HS.out, e]
        rfl
end Go.Proofs.Tryz

namespace Go.Proofs.Tryz
open Go Go.Am Go.RowKit Go.Dr
set_option maxRecDepth 100000

def dashL (l : List UInt8) : List UInt8 := if l.length = 0 then [45] else l
theorem length_dashL (l : List UInt8) : (dashL l).length ≤ l.length + 1 := by
  unfold dashL; split <;> simp
theorem bA_size (l : List UInt8) : (bA l).size = l.length := by simp [bA, ByteArray.size]
theorem bA_list (l : List UInt8) : (bA l).toList = l := by rw [Lib.toList_data]; rfl
theorem dash_w (l : List UInt8) (w : World) : Calls prog 90 #[.string (bA l)] w fun e w' => e = .returned (.string (bA (dashL l))) ∧ w' = w := by
  cases l with
  | nil =>
    have e : bA [] = ({ data := #[] } : ByteArray) := rfl
    have e2 : bA (dashL []) = ({ data := #[45] } : ByteArray) := rfl
    rw [e, e2]
    clear e e2
    go_enter func90, ntmps90
    go_wp2
    go_ret
    exact ⟨rfl, rfl⟩
  | cons c l =>
    have e : dashL (c :: l) = c :: l := by simp [dashL]
    have hl : ((bA (c :: l)).toList == []) = false := by rw [bA_list]; rfl
    have hl2 : (bA (c :: l)).toList ≠ [] := by rw [bA_list]; simp
    rw [e]
    generalize bA (c :: l) = s at hl hl2 ⊢
    clear e
    go_enter func90, ntmps90
    go_wp2
    go_ret
    exact ⟨rfl, rfl⟩
theorem optional_w (l : List UInt8) (w : World) : Calls prog 119 #[.string (bA l)] w fun e w' => e = .returned (.string (bA (dashL l))) ∧ w' = w := by
  cases l with
  | nil =>
    have e : bA [] = ({ data := #[] } : ByteArray) := rfl
    have e2 : bA (dashL []) = ({ data := #[45] } : ByteArray) := rfl
    rw [e, e2]
    clear e e2
    go_enter func119, ntmps119
    go_wp2
    go_ret
    exact ⟨rfl, rfl⟩
  | cons c l =>
    have e : dashL (c :: l) = c :: l := by simp [dashL]
    have hl : ((bA (c :: l)).toList == []) = false := by rw [bA_list]; rfl
    have hl2 : (bA (c :: l)).toList ≠ [] := by rw [bA_list]; simp
    rw [e]
    generalize bA (c :: l) = s at hl hl2 ⊢
    clear e
    go_enter func119, ntmps119
    go_wp2
    go_ret
    exact ⟨rfl, rfl⟩
theorem length_moveL {m : MvD} (hn : m.bn ≤ 1000) (hsn : m.sn ≤ 1000) : (moveL m).length ≤ 2004 := by
  unfold moveL
  simp only [List.length_append, List.length_cons, List.length_nil, List.length_map, strL, tchs, length_intsL, List.length_range]
  split <;> simp <;> omega

/-- The bytes of the first moves, each behind a blank. -/
def mvsL (d : Nat → MvD) : Nat → List UInt8
  | 0 => []
  | i + 1 => mvsL d i ++ ([32] ++ moveL (d i))
def lateL (lx : Bool) : List UInt8 := if lx = true then [32, 108, 97, 116, 101] else []
/-- The bytes of a play. -/
def playL (l1 l2 : List UInt8) (lx : Bool) (d : Nat → MvD) (n : Nat) : List UInt8 := dashL l1 ++ [32] ++ dashL l2 ++ lateL lx ++ mvsL d n
end Go.Proofs.Tryz

namespace Go.Proofs
open Go.Shelf
def Tryz.joinSL_ren : Go.Shelf.Ren := ⟨fun | 156 => 121 | 165 => 155 | 166 => 109 | 169 => 111 | 240 => 145 | 241 => 171 | 276 => 167 | 277 => 191 | n => n, fun | 31 => 88 | 9 => 9 | 3 => 3 | 4 => 4 | 0 => 0 | 20 => 20 | 72 => 145 | 76 => 148 | 70 => 142 | 37 => 143 | 75 => 147 | 127 => 180 | 164 => 195 | 5 => 5 | 80 => 151 | n => n, fun | n => n⟩
theorem Tryz.joinSL : Go.Proofs.Lays.n156 Tryz.prog Tryz.joinSL_ren := {
  mixed := by kernel_rfl
  f156 := Tryz.func121.trans (congrArg some (by kernel_rfl))
  f165 := Tryz.func155.trans (congrArg some (by kernel_rfl))
  f166 := Tryz.func109.trans (congrArg some (by kernel_rfl))
  f169 := Tryz.func111.trans (congrArg some (by kernel_rfl))
  f240 := Tryz.func145.trans (congrArg some (by kernel_rfl))
  f241 := Tryz.func171.trans (congrArg some (by kernel_rfl))
  f276 := Tryz.func167.trans (congrArg some (by kernel_rfl))
  f277 := Tryz.func191.trans (congrArg some (by kernel_rfl))
  t0 := Tryz.underlying0
  a0 := Tryz.isAgg0
  z0 := Tryz.sizeOf0
  v0 := Tryz.zeroValue0
  t3 := Tryz.underlying3
  a3 := Tryz.isAgg3
  z3 := Tryz.sizeOf3
  v3 := Tryz.zeroValue3
  t4 := Tryz.underlying4
  a4 := Tryz.isAgg4
  z4 := Tryz.sizeOf4
  v4 := Tryz.zeroValue4
  t9 := Tryz.underlying9
  a9 := Tryz.isAgg9
  z9 := Tryz.sizeOf9
  v9 := Tryz.zeroValue9
  t20 := Tryz.underlying20
  a20 := Tryz.isAgg20
  z20 := Tryz.sizeOf20
  v20 := Tryz.zeroValue20
  t31 := Tryz.underlying88
  a31 := Tryz.isAgg88
  z31 := Tryz.sizeOf88
  v31 := Tryz.zeroValue88
  t37 := Tryz.underlying143
  a37 := Tryz.isAgg143
  z37 := Tryz.sizeOf143
  v37 := Tryz.zeroValue143
  t70 := Tryz.underlying142
  a70 := Tryz.isAgg142
  z70 := Tryz.sizeOf142
  v70 := Tryz.zeroValue142
  t72 := Tryz.underlying145
  a72 := Tryz.isAgg145
  z72 := Tryz.sizeOf145
  v72 := Tryz.zeroValue145
  t75 := Tryz.underlying147
  a75 := Tryz.isAgg147
  z75 := Tryz.sizeOf147
  v75 := Tryz.zeroValue147
  t76 := Tryz.underlying148
  a76 := Tryz.isAgg148
  z76 := Tryz.sizeOf148
  v76 := Tryz.zeroValue148
  t127 := Tryz.underlying180
  a127 := Tryz.isAgg180
  z127 := Tryz.sizeOf180
  v127 := Tryz.zeroValue180
  t164 := Tryz.underlying195
  a164 := Tryz.isAgg195
  z164 := Tryz.sizeOf195
  v164 := Tryz.zeroValue195 }
theorem Tryz.joinX : Builder.Extra Tryz.prog Tryz.joinSL_ren := {
  sizeBuilder := by kernel_rfl
  liesBuilder := by kernel_rfl
  t5 := Tryz.underlying5
  a5 := Tryz.isAgg5
  z5 := Tryz.sizeOf5
  v5 := Tryz.zeroValue5
  infoByte := by kernel_rfl
  cellsByte := by kernel_rfl
  sizeByte := by kernel_rfl
  neB5 := by decide }
def Tryz.splitSL_ren : Go.Shelf.Ren := ⟨fun | 146 => 123 | 221 => 156 | 268 => 172 | 138 => 173 | 143 => 118 | 195 => 192 | 197 => 158 | 218 => 193 | 219 => 153 | 260 => 174 | 217 => 168 | 225 => 152 | 224 => 151 | 267 => 170 | 266 => 189 | 314 => 190 | n => n, fun | 9 => 9 | 31 => 88 | 3 => 3 | 4 => 4 | 0 => 0 | 105 => 187 | 21 => 21 | 5 => 5 | 46 => 184 | 119 => 215 | 139 => 218 | 138 => 217 | 146 => 212 | 51 => 207 | n => n, fun | 1 => 2 | 3 => 3 | 4 => 4 | n => n⟩
theorem Tryz.splitSL : Go.Proofs.Lays.n146 Tryz.prog Tryz.splitSL_ren := {
  mixed := by kernel_rfl
  f138 := Tryz.func173.trans (congrArg some (by kernel_rfl))
  f143 := Tryz.func118.trans (congrArg some (by kernel_rfl))
  f146 := Tryz.func123.trans (congrArg some (by kernel_rfl))
  f195 := Tryz.func192.trans (congrArg some (by kernel_rfl))
  f197 := Tryz.func158.trans (congrArg some (by kernel_rfl))
  f217 := Tryz.func168.trans (congrArg some (by kernel_rfl))
  f218 := Tryz.func193.trans (congrArg some (by kernel_rfl))
  f219 := Tryz.func153.trans (congrArg some (by kernel_rfl))
  f221 := Tryz.func156.trans (congrArg some (by kernel_rfl))
  f224 := Tryz.func151.trans (congrArg some (by kernel_rfl))
  f225 := Tryz.func152.trans (congrArg some (by kernel_rfl))
  f260 := Tryz.func174.trans (congrArg some (by kernel_rfl))
  f266 := Tryz.func189.trans (congrArg some (by kernel_rfl))
  f267 := Tryz.func170.trans (congrArg some (by kernel_rfl))
  f268 := Tryz.func172.trans (congrArg some (by kernel_rfl))
  f314 := Tryz.func190.trans (congrArg some (by kernel_rfl))
  t0 := Tryz.underlying0
  a0 := Tryz.isAgg0
  z0 := Tryz.sizeOf0
  v0 := Tryz.zeroValue0
  t3 := Tryz.underlying3
  a3 := Tryz.isAgg3
  z3 := Tryz.sizeOf3
  v3 := Tryz.zeroValue3
  t4 := Tryz.underlying4
  a4 := Tryz.isAgg4
  z4 := Tryz.sizeOf4
  v4 := Tryz.zeroValue4
  t5 := Tryz.underlying5
  a5 := Tryz.isAgg5
  z5 := Tryz.sizeOf5
  v5 := Tryz.zeroValue5
  t9 := Tryz.underlying9
  a9 := Tryz.isAgg9
  z9 := Tryz.sizeOf9
  v9 := Tryz.zeroValue9
  t21 := Tryz.underlying21
  a21 := Tryz.isAgg21
  z21 := Tryz.sizeOf21
  v21 := Tryz.zeroValue21
  t31 := Tryz.underlying88
  a31 := Tryz.isAgg88
  z31 := Tryz.sizeOf88
  v31 := Tryz.zeroValue88
  t46 := Tryz.underlying184
  a46 := Tryz.isAgg184
  z46 := Tryz.sizeOf184
  v46 := Tryz.zeroValue184
  t51 := Tryz.underlying207
  a51 := Tryz.isAgg207
  z51 := Tryz.sizeOf207
  v51 := Tryz.zeroValue207
  t105 := Tryz.underlying187
  a105 := Tryz.isAgg187
  z105 := Tryz.sizeOf187
  v105 := Tryz.zeroValue187
  t119 := Tryz.underlying215
  a119 := Tryz.isAgg215
  z119 := Tryz.sizeOf215
  t138 := Tryz.underlying217
  a138 := Tryz.isAgg217
  z138 := Tryz.sizeOf217
  v138 := Tryz.zeroValue217
  t139 := Tryz.underlying218
  a139 := Tryz.isAgg218
  z139 := Tryz.sizeOf218
  v139 := Tryz.zeroValue218
  t146 := Tryz.underlying212
  a146 := Tryz.isAgg212
  z146 := Tryz.sizeOf212
  v146 := Tryz.zeroValue212
  g1 := by kernel_rfl
  g3 := by kernel_rfl
  g4 := by kernel_rfl }
def Tryz.trimSL_ren : Go.Shelf.Ren := ⟨fun | 160 => 86 | 232 => 125 | 231 => 124 | 227 => 126 | 234 => 128 | 233 => 127 | 236 => 130 | 235 => 129 | 228 => 157 | 271 => 159 | 151 => 69 | 197 => 158 | 120 => 175 | 152 => 117 | 260 => 174 | 137 => 147 | 119 => 150 | 224 => 151 | 225 => 152 | 217 => 168 | 266 => 189 | n => n, fun | 9 => 9 | 4 => 4 | 3 => 3 | 5 => 5 | 117 => 168 | 116 => 167 | 0 => 0 | 124 => 171 | 21 => 21 | 105 => 187 | 46 => 184 | 119 => 215 | 139 => 218 | 138 => 217 | n => n, fun | 3 => 3 | 4 => 4 | n => n⟩
theorem Tryz.trimSL : Go.Proofs.Lays.n160 Tryz.prog Tryz.trimSL_ren := {
  mixed := by kernel_rfl
  f119 := Tryz.func150.trans (congrArg some (by kernel_rfl))
  f120 := Tryz.func175.trans (congrArg some (by kernel_rfl))
  f137 := Tryz.func147.trans (congrArg some (by kernel_rfl))
  f151 := Tryz.func69.trans (congrArg some (by kernel_rfl))
  f152 := Tryz.func117.trans (congrArg some (by kernel_rfl))
  f160 := Tryz.func86.trans (congrArg some (by kernel_rfl))
  f197 := Tryz.func158.trans (congrArg some (by kernel_rfl))
  f217 := Tryz.func168.trans (congrArg some (by kernel_rfl))
  f224 := Tryz.func151.trans (congrArg some (by kernel_rfl))
  f225 := Tryz.func152.trans (congrArg some (by kernel_rfl))
  f227 := Tryz.func126.trans (congrArg some (by kernel_rfl))
  f228 := Tryz.func157.trans (congrArg some (by kernel_rfl))
  f231 := Tryz.func124.trans (congrArg some (by kernel_rfl))
  f232 := Tryz.func125.trans (congrArg some (by kernel_rfl))
  f233 := Tryz.func127.trans (congrArg some (by kernel_rfl))
  f234 := Tryz.func128.trans (congrArg some (by kernel_rfl))
  f235 := Tryz.func129.trans (congrArg some (by kernel_rfl))
  f236 := Tryz.func130.trans (congrArg some (by kernel_rfl))
  f260 := Tryz.func174.trans (congrArg some (by kernel_rfl))
  f266 := Tryz.func189.trans (congrArg some (by kernel_rfl))
  f271 := Tryz.func159.trans (congrArg some (by kernel_rfl))
  t0 := Tryz.underlying0
  a0 := Tryz.isAgg0
  z0 := Tryz.sizeOf0
  v0 := Tryz.zeroValue0
  t3 := Tryz.underlying3
  a3 := Tryz.isAgg3
  z3 := Tryz.sizeOf3
  v3 := Tryz.zeroValue3
  t4 := Tryz.underlying4
  a4 := Tryz.isAgg4
  z4 := Tryz.sizeOf4
  v4 := Tryz.zeroValue4
  t5 := Tryz.underlying5
  a5 := Tryz.isAgg5
  z5 := Tryz.sizeOf5
  v5 := Tryz.zeroValue5
  t9 := Tryz.underlying9
  a9 := Tryz.isAgg9
  z9 := Tryz.sizeOf9
  v9 := Tryz.zeroValue9
  t21 := Tryz.underlying21
  a21 := Tryz.isAgg21
  z21 := Tryz.sizeOf21
  v21 := Tryz.zeroValue21
  t46 := Tryz.underlying184
  a46 := Tryz.isAgg184
  z46 := Tryz.sizeOf184
  v46 := Tryz.zeroValue184
  t105 := Tryz.underlying187
  a105 := Tryz.isAgg187
  z105 := Tryz.sizeOf187
  v105 := Tryz.zeroValue187
  t116 := Tryz.underlying167
  a116 := Tryz.isAgg167
  z116 := Tryz.sizeOf167
  t117 := Tryz.underlying168
  a117 := Tryz.isAgg168
  z117 := Tryz.sizeOf168
  v117 := Tryz.zeroValue168
  t119 := Tryz.underlying215
  a119 := Tryz.isAgg215
  z119 := Tryz.sizeOf215
  t124 := Tryz.underlying171
  a124 := Tryz.isAgg171
  z124 := Tryz.sizeOf171
  v124 := Tryz.zeroValue171
  t138 := Tryz.underlying217
  a138 := Tryz.isAgg217
  z138 := Tryz.sizeOf217
  v138 := Tryz.zeroValue217
  t139 := Tryz.underlying218
  a139 := Tryz.isAgg218
  z139 := Tryz.sizeOf218
  v139 := Tryz.zeroValue218
  g3 := by kernel_rfl
  g4 := by kernel_rfl }
def Tryz.containsSL_ren : Go.Shelf.Ren := ⟨fun | 144 => 72 | 143 => 118 | 219 => 153 | 217 => 168 | 225 => 152 | 224 => 151 | 267 => 170 | 266 => 189 | 314 => 190 | n => n, fun | 9 => 9 | 4 => 4 | 3 => 3 | 5 => 5 | 46 => 184 | 146 => 212 | 51 => 207 | n => n, fun | 1 => 2 | n => n⟩
theorem Tryz.containsSL : Go.Proofs.Lays.n144 Tryz.prog Tryz.containsSL_ren := {
  mixed := by kernel_rfl
  f143 := Tryz.func118.trans (congrArg some (by kernel_rfl))
  f144 := Tryz.func72.trans (congrArg some (by kernel_rfl))
  f217 := Tryz.func168.trans (congrArg some (by kernel_rfl))
  f219 := Tryz.func153.trans (congrArg some (by kernel_rfl))
  f224 := Tryz.func151.trans (congrArg some (by kernel_rfl))
  f225 := Tryz.func152.trans (congrArg some (by kernel_rfl))
  f266 := Tryz.func189.trans (congrArg some (by kernel_rfl))
  f267 := Tryz.func170.trans (congrArg some (by kernel_rfl))
  f314 := Tryz.func190.trans (congrArg some (by kernel_rfl))
  t3 := Tryz.underlying3
  a3 := Tryz.isAgg3
  z3 := Tryz.sizeOf3
  v3 := Tryz.zeroValue3
  t4 := Tryz.underlying4
  a4 := Tryz.isAgg4
  z4 := Tryz.sizeOf4
  v4 := Tryz.zeroValue4
  t5 := Tryz.underlying5
  a5 := Tryz.isAgg5
  z5 := Tryz.sizeOf5
  v5 := Tryz.zeroValue5
  t9 := Tryz.underlying9
  a9 := Tryz.isAgg9
  z9 := Tryz.sizeOf9
  v9 := Tryz.zeroValue9
  t46 := Tryz.underlying184
  a46 := Tryz.isAgg184
  z46 := Tryz.sizeOf184
  v46 := Tryz.zeroValue184
  t51 := Tryz.underlying207
  a51 := Tryz.isAgg207
  z51 := Tryz.sizeOf207
  v51 := Tryz.zeroValue207
  t146 := Tryz.underlying212
  a146 := Tryz.isAgg212
  z146 := Tryz.sizeOf212
  v146 := Tryz.zeroValue212
  g1 := by kernel_rfl }
def Tryz.cutSufSL_ren : Go.Shelf.Ren := ⟨fun | 104 => 113 | 211 => 148 | 207 => 169 | n => n, fun | 9 => 9 | 4 => 4 | 24 => 155 | 3 => 3 | n => n, fun | n => n⟩
theorem Tryz.cutSufSL : Go.Proofs.Lays.n104 Tryz.prog Tryz.cutSufSL_ren := {
  mixed := by kernel_rfl
  f104 := Tryz.func113.trans (congrArg some (by kernel_rfl))
  f207 := Tryz.func169.trans (congrArg some (by kernel_rfl))
  f211 := Tryz.func148.trans (congrArg some (by kernel_rfl))
  t3 := Tryz.underlying3
  a3 := Tryz.isAgg3
  z3 := Tryz.sizeOf3
  v3 := Tryz.zeroValue3
  t4 := Tryz.underlying4
  a4 := Tryz.isAgg4
  z4 := Tryz.sizeOf4
  v4 := Tryz.zeroValue4
  t9 := Tryz.underlying9
  a9 := Tryz.isAgg9
  z9 := Tryz.sizeOf9
  v9 := Tryz.zeroValue9
  t24 := Tryz.underlying155
  a24 := Tryz.isAgg155
  z24 := Tryz.sizeOf155
  v24 := Tryz.zeroValue155 }
end Go.Proofs

namespace Go.Proofs.Tryz
open Go Go.Am Go.RowKit Go.Dr
set_option maxRecDepth 100000

theorem join_w {w : World} {bk c : Nat} {ws : List (List UInt8)} {n : Nat} {base : Nat} (h : w.ownsRow base 9 1 (.slice (some ⟨bk, 0, none⟩) n c) n (ws.map fun l => .string (bA l))) (hn : n ≤ 1000000) (hlen : (Lib.join ws [32]).length ≤ 1000000) :
    Calls prog 121 #[.slice (some ⟨bk, 0, none⟩) n c, .string { data := #[32] }] w fun e w' => e = .returned (.string (bA (Lib.join ws [32]))) ∧ Below w.heap.size w w' := by
  have hl : ws.length = n := by have := h.1; simpa using this
  have hnc : n ≤ c := by
    rcases h.2 with ⟨e, _⟩ | ⟨g, cap, cur, e, _, _, h3, _⟩
    · cases e
    · simp only [Value.slice.injEq] at e; omega
  have e1 : (ws.map bA).map (fun s => s.data.toList) = ws := by
    rw [List.map_map]
    conv => rhs; rw [← List.map_id ws]
    apply List.map_congr_left
    intro x _
    simp [bA]
  have cJ := Any.strings_Join joinSL joinX bk 0 c (ws.map bA) { data := #[32] } w (fun j x hj => by
    rw [List.getElem?_map] at hj
    have hjl : j < n := by
      have := (List.getElem?_eq_some_iff.1 (Option.map_eq_some_iff.1 hj).choose_spec.1).1
      omega
    rw [Nat.zero_add, h.cellAt j (by omega), List.getElem?_map]
    cases hx : ws[j]? with
    | none => rw [hx] at hj; cases hj
    | some l => rw [hx] at hj; cases hj; rfl) (h.lt bk rfl).2 (by simp; omega) (by simp; omega) (by
      have e2 : ({ data := #[32] } : ByteArray).data.toList = [32] := rfl
      rw [e1, e2]; omega)
  rw [List.length_map, hl, e1] at cJ
  exact cJ

/-! ### the words joined -/
theorem join_two (a b : List UInt8) (r : List (List UInt8)) : Lib.join (a :: b :: r) [32] = a ++ [32] ++ b ++ (r.map ([32] ++ ·)).flatten := by
  rw [Lib.join_cons]
  simp [Lib.joinTail]
def wordsK (l1 l2 : List UInt8) (lx : Bool) (d : Nat → MvD) : Nat → List (List UInt8)
  | 0 => [dashL l1, dashL l2] ++ (if lx = true then [[108, 97, 116, 101]] else [])
  | i + 1 => wordsK l1 l2 lx d i ++ [moveL (d i)]
theorem wordsK_cons (l1 l2 : List UInt8) (lx : Bool) (d : Nat → MvD) : ∀ i, ∃ r, wordsK l1 l2 lx d i = dashL l1 :: dashL l2 :: r ∧ (r.map ([32] ++ ·)).flatten = lateL lx ++ mvsL d i
  | 0 => ⟨if lx = true then [[108, 97, 116, 101]] else [], rfl, by cases lx <;> simp [lateL, mvsL]⟩
  | i + 1 => by
    obtain ⟨r, e, h⟩ := wordsK_cons l1 l2 lx d i
    refine ⟨r ++ [moveL (d i)], by rw [wordsK, e]; rfl, ?_⟩
    rw [List.map_append, List.flatten_append, h, mvsL]
    simp
theorem join_words (l1 l2 : List UInt8) (lx : Bool) (d : Nat → MvD) (n : Nat) : Lib.join (wordsK l1 l2 lx d n) [32] = playL l1 l2 lx d n := by
  obtain ⟨r, e, h⟩ := wordsK_cons l1 l2 lx d n
  rw [e, join_two, h]
  unfold playL
  simp
end Go.Proofs.Tryz

namespace Go.Proofs.Tryz
open Go Go.Am Go.RowKit Go.Dr
set_option maxRecDepth 100000

section
variable {w : World} {l1 l2 : List UInt8} {lx : Bool} {d : Nat → MvD} {n : Nat} {ad : Option Addr} {c : Nat}
set_option maxHeartbeats 1600000 in
theorem printR_w (h1 : l1.length ≤ 1000) (h2 : l2.length ≤ 1000) (hm : IsMoves w (.slice ad n c) d n) (hn : n ≤ 1000) (hd : ∀ i, i < n → DigM (d i) ∧ (d i).bn ≤ 1000 ∧ (d i).sn ≤ 1000) :
    Calls prog 24 #[.agg #[.string (bA l1), .string (bA l2), .bool lx, .slice ad n c]] w fun e w' => e = .returned (.string (bA (playL l1 l2 lx d n))) ∧ Below w.heap.size w w' := by
  have hB : Below w.heap.size w (w.alloc (.cells #[.string (bA l1), .string (bA l2), .bool lx, .slice ad n c] 24)) := (Below.refl _ _).alloc (Nat.le_refl _) _
  have hx0 := at_new w #[.string (bA l1), .string (bA l2), .bool lx, .slice ad n c] 24
  have z1 : (bA (dashL l1)).size ≤ 1001 := by rw [bA_size]; have := length_dashL l1; omega
  have z2 : (bA (dashL l2)).size ≤ 1001 := by rw [bA_size]; have := length_dashL l2; omega
  have HS0 : Hid (bA (dashL l1) ++ { data := #[32] } ++ bA (dashL l2) = bA (dashL l1 ++ [32] ++ dashL l2)) := Lib.hid (by rw [← bA_append, ← bA_append]; rfl)
  have hz0 : (bA (dashL l1) ++ { data := #[32] } ++ bA (dashL l2) : ByteArray).size ≤ 2003 := by
    have e : (bA (dashL l1) ++ { data := #[32] } ++ bA (dashL l2) : ByteArray).size = (bA (dashL l1)).size + 1 + (bA (dashL l2)).size := by rw [ByteArray.size_append, ByteArray.size_append]; rfl
    omega
  have q1 : ¬ (9223372036854775807 < (bA (dashL l1)).size + 1) := by omega
  have q2 : ¬ (9223372036854775807 < (bA (dashL l1)).size + 1 + (bA (dashL l2)).size) := by omega
  go_enter func24, ntmps24
  go_wp2_with fail
  generalize w.alloc (.cells #[.string (bA l1), .string (bA l2), .bool lx, .slice ad n c] 24) = W0 at hB hx0 ⊢
  obtain ⟨⟨x0, x1, x2, x3⟩, -⟩ := box4 hx0
  have hdr : Below W0.heap.size W0 W0.drew := (Below.refl _ _).drew
  have hxD : At W0.drew w.heap.size #[.string (bA l1), .string (bA l2), .bool lx, .slice ad n c] 24 := hx0
  have hbD := hB.drew
  go_region_held3 (fun W => W.cell? ⟨w.heap.size, 0, none⟩ = some (.string (bA l1)) ∧ W.cell? ⟨w.heap.size, 1, none⟩ = some (.string (bA l2)) ∧ Below W0.heap.size W0 W)
    (go_keep)
    (first
      | (go_at_call 90; refine Calls.mono (dash_w _ _) ?_; rintro e W ⟨rfl, rfl⟩))
  clear x0 x1 x2 x3 hx0 hB hdr q1 q2 z1 z2
  generalize W0.drew = W at hxD hbD ⊢
  generalize bA (dashL l1) ++ { data := #[32] } ++ bA (dashL l2) = S0 at HS0 hz0 ⊢
  obtain ⟨⟨x0, x1, x2, x3⟩, -⟩ := box4 hxD
  cases lx with
  | true =>
    have q1 : ¬ (9223372036854775807 < S0.size + 5) := by omega
    have HS1 : Hid (S0 ++ { data := #[32, 108, 97, 116, 101] } = bA (dashL l1 ++ [32] ++ dashL l2 ++ lateL true)) := Lib.hid (by rw [HS0.out, ← bA_append]; rfl)
    have hz1 : ((S0 ++ { data := #[32, 108, 97, 116, 101] } : ByteArray).size : Int) ≤ 2010 := by
      have e : (S0 ++ { data := #[32, 108, 97, 116, 101] } : ByteArray).size = S0.size + 5 := by rw [ByteArray.size_append]; rfl
      omega
    clear HS0 hz0
    go_wp2_with fail
    generalize S0 ++ { data := #[32, 108, 97, 116, 101] } = S1 at HS1 hz1 ⊢
    go_loopw [3, 4] (fun t z wr => ∃ (i : Nat), i ≤ n ∧ z = .int .i64 i ∧ StrIs t (dashL l1 ++ [32] ++ dashL l2 ++ lateL true ++ mvsL d i) (2010 + 2005 * i) ∧ At wr w.heap.size #[.string (bA l1), .string (bA l2), .bool true, .slice ad n c] 24 ∧ Below w.heap.size w wr) (fun _ z _ => n - (numOf' z).toNat)
    case atStart => exact ⟨0, Nat.zero_le _, rfl, ⟨_, rfl, by rw [HS1.out]; simp [mvsL], by omega⟩, hxD, hbD⟩
    case round =>
      clear hxD hbD HS1 hz1
      obtain ⟨i, hi, rfl, ⟨S, rfl, hSe, hzS⟩, hx, hbel⟩ := hrel
      obtain ⟨⟨-, -, -, x3⟩, -⟩ := box4 hx
      have HS := Lib.hid hSe
      clear hSe
      by_cases hin : i < n
      · obtain ⟨b, off, rfl, -, f, hf, hcf⟩ := m5_row hm (by omega)
        obtain ⟨hd1, hd2, hd3⟩ := hd i hin
        obtain ⟨p0, p1, p2, p3, p4⟩ := hcf i hin
        have hcel : ∀ {b o : Nat} {v : Value}, w.cell? ⟨b, o, none⟩ = some v → wr.cell? ⟨b, o, none⟩ = some v := fun h => cell_b h hbel (cell_under h)
        have p0 := hcel p0
        have p1 := hcel p1
        have p2 := hcel p2
        have p3 := hcel p3
        have p4 := hcel p4
        have cM := printMoveR_w ((hf i hin).below hbel) hd1 hd2 hd3
        have hlm := length_moveL hd2 hd3
        have HC : Hid (S ++ { data := #[32] } ++ bA (moveL (d i)) = bA (dashL l1 ++ [32] ++ dashL l2 ++ lateL true ++ mvsL d (i + 1))) := Lib.hid (by
          have e : (S ++ { data := #[32] } : ByteArray) = S ++ bA [32] := rfl
          rw [e, HS.out, bA_append, bA_append, mvsL]
          simp)
        have y1 : (bA (moveL (d i))).size ≤ 2004 := by rw [bA_size]; exact hlm
        have q1 : ¬ (9223372036854775807 < S.size + 1) := by omega
        have q2 : ¬ (9223372036854775807 < S.size + 1 + (bA (moveL (d i))).size) := by omega
        have hzz : ((S ++ { data := #[32] } ++ bA (moveL (d i)) : ByteArray).size : Int) ≤ 2010 + 2005 * ((i + 1 : Nat) : Int) := by
          have e : (S ++ { data := #[32] } ++ bA (moveL (d i)) : ByteArray).size = S.size + 1 + (bA (moveL (d i))).size := by rw [ByteArray.size_append, ByteArray.size_append]; rfl
          omega
        clear hcf hf hcel hlm hd1 hd2 hd3
        generalize f i = m at p0 p1 p2 p3 p4 cM
        generalize bA (moveL (d i)) = Sm at cM HC y1 q2 hzz
        go_wp2_with fail
        go_at_call 91
        refine cM.mono ?_
        rintro e w2 ⟨rfl, hk2⟩
        have hx2 := hx.below hk2 hx.lt
        have hb2 := hbel.trans (hk2.mono hbel.size)
        clear cM hx hbel hk2 p0 p1 p2 p3 p4 x3
        go_wp2
        go_roundw
        case rel => exact ⟨i + 1, by omega, by go_num, ⟨_, rfl, HC.out, hzz⟩, hx2, hb2⟩
        case measure => simp [numOf'] <;> omega
      · obtain rfl : i = n := by omega
        go_wp2
        go_ret
        refine ⟨?_, hbel⟩
        rw [HS.out]
        rfl
  | false =>
    have HS1 : Hid (S0 = bA (dashL l1 ++ [32] ++ dashL l2 ++ lateL false)) := Lib.hid (by rw [HS0.out]; simp [lateL])
    have hz1 : (S0.size : Int) ≤ 2010 := by omega
    clear HS0 hz0
    go_wp2_with fail
    go_loopw [3, 4] (fun t z wr => ∃ (i : Nat), i ≤ n ∧ z = .int .i64 i ∧ StrIs t (dashL l1 ++ [32] ++ dashL l2 ++ lateL false ++ mvsL d i) (2010 + 2005 * i) ∧ At wr w.heap.size #[.string (bA l1), .string (bA l2), .bool false, .slice ad n c] 24 ∧ Below w.heap.size w wr) (fun _ z _ => n - (numOf' z).toNat)
    case atStart => exact ⟨0, Nat.zero_le _, rfl, ⟨_, rfl, by rw [HS1.out]; simp [mvsL], by omega⟩, hxD, hbD⟩
    case round =>
      clear hxD hbD HS1 hz1
      obtain ⟨i, hi, rfl, ⟨S, rfl, hSe, hzS⟩, hx, hbel⟩ := hrel
      obtain ⟨⟨-, -, -, x3⟩, -⟩ := box4 hx
      have HS := Lib.hid hSe
      clear hSe
      by_cases hin : i < n
      · obtain ⟨b, off, rfl, -, f, hf, hcf⟩ := m5_row hm (by omega)
        obtain ⟨hd1, hd2, hd3⟩ := hd i hin
        obtain ⟨p0, p1, p2, p3, p4⟩ := hcf i hin
        have hcel : ∀ {b o : Nat} {v : Value}, w.cell? ⟨b, o, none⟩ = some v → wr.cell? ⟨b, o, none⟩ = some v := fun h => cell_b h hbel (cell_under h)
        have p0 := hcel p0
        have p1 := hcel p1
        have p2 := hcel p2
        have p3 := hcel p3
        have p4 := hcel p4
        have cM := printMoveR_w ((hf i hin).below hbel) hd1 hd2 hd3
        have hlm := length_moveL hd2 hd3
        have HC : Hid (S ++ { data := #[32] } ++ bA (moveL (d i)) = bA (dashL l1 ++ [32] ++ dashL l2 ++ lateL false ++ mvsL d (i + 1))) := Lib.hid (by
          have e : (S ++ { data := #[32] } : ByteArray) = S ++ bA [32] := rfl
          rw [e, HS.out, bA_append, bA_append, mvsL]
          simp)
        have y1 : (bA (moveL (d i))).size ≤ 2004 := by rw [bA_size]; exact hlm
        have q1 : ¬ (9223372036854775807 < S.size + 1) := by omega
        have q2 : ¬ (9223372036854775807 < S.size + 1 + (bA (moveL (d i))).size) := by omega
        have hzz : ((S ++ { data := #[32] } ++ bA (moveL (d i)) : ByteArray).size : Int) ≤ 2010 + 2005 * ((i + 1 : Nat) : Int) := by
          have e : (S ++ { data := #[32] } ++ bA (moveL (d i)) : ByteArray).size = S.size + 1 + (bA (moveL (d i))).size := by rw [ByteArray.size_append, ByteArray.size_append]; rfl
          omega
        clear hcf hf hcel hlm hd1 hd2 hd3
        generalize f i = m at p0 p1 p2 p3 p4 cM
        generalize bA (moveL (d i)) = Sm at cM HC y1 q2 hzz
        go_wp2_with fail
        go_at_call 91
        refine cM.mono ?_
        rintro e w2 ⟨rfl, hk2⟩
        have hx2 := hx.below hk2 hx.lt
        have hb2 := hbel.trans (hk2.mono hbel.size)
        clear cM hx hbel hk2 p0 p1 p2 p3 p4 x3
        go_wp2
        go_roundw
        case rel => exact ⟨i + 1, by omega, by go_num, ⟨_, rfl, HC.out, hzz⟩, hx2, hb2⟩
        case measure => simp [numOf'] <;> omega
      · obtain rfl : i = n := by omega
        go_wp2
        go_ret
        refine ⟨?_, hbel⟩
        rw [HS.out]
        rfl
end
end Go.Proofs.Tryz
