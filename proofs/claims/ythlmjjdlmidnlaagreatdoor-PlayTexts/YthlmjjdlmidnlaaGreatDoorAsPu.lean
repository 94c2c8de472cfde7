/- A move printed, on both sides: by the kit's walk. -/
import Derived.Test.YthlmjjdlmidnlaaGreatDoorAsBu
import Derived.Test.YthlmjjdlmidnlaaGreatDoorArVau
import Derived.Deep.QuietTactic
import Derived.BigQuiet
import Derived.Deep.RegionHeld3
namespace Go.Proofs.Tryz
open Go Go.Am Go.RowKit Go.Dr
set_option maxRecDepth 100000

/-- A digit's byte. -/
def dgB (n : Int) : UInt8 := UInt8.ofNat (48 + n).toNat
/-- A string of bytes. -/
def bA (l : List UInt8) : ByteArray := ⟨l.toArray⟩
theorem bA_append (a b : List UInt8) : bA a ++ bA b = bA (a ++ b) := by
  apply ByteArray.ext
  simp [bA, ByteArray.data_append]
theorem bA_str {s : ByteArray} {y : Int → Int} {o n : Int} (h : IsStr (.string s) y o n) : s = bA (strL y o n) := by
  have := str_list h
  rw [Lib.toList_data] at this
  cases s
  simp only [bA, ByteArray.mk.injEq] at *
  rw [← this]
/-- The bytes of a move. -/
def moveL (m : MvD) : List UInt8 := [dgB m.fr] ++ [if m.x = 0 then 45 else 120] ++ [dgB m.to] ++ strL m.y m.so m.sn ++ (if (tchs m).length = 0 then [] else [58]) ++ (tchs m).map dgB
/-- The numbers of a move are digits. -/
def DigM (m : MvD) : Prop := (0 ≤ m.fr ∧ m.fr ≤ 9) ∧ (0 ≤ m.to ∧ m.to ≤ 9) ∧ ∀ z ∈ tchs m, 0 ≤ z ∧ z ≤ 9

/-- The bytes of the first touches. -/
def digs (m : MvD) (i : Nat) : List UInt8 := ((tchs m).take i).map dgB
/-- A string value with these bytes, and a bound of its length. -/
def StrIs (v : Value) (l : List UInt8) (n : Int) : Prop := ∃ S : ByteArray, v = .string S ∧ S = bA l ∧ (S.size : Int) ≤ n
theorem digit_w (n : Int) (h0 : 0 ≤ n) (h9 : n ≤ 9) (w : World) : Calls prog 154 #[.int .i64 n] w fun e w' => e = .returned (.string (bA [dgB n])) ∧ w' = w := by
  have hn : n = 0 ∨ n = 1 ∨ n = 2 ∨ n = 3 ∨ n = 4 ∨ n = 5 ∨ n = 6 ∨ n = 7 ∨ n = 8 ∨ n = 9 := by omega
  clear h0 h9
  rcases hn with rfl | rfl | rfl | rfl | rfl | rfl | rfl | rfl | rfl | rfl <;>
  · go_enter func154, ntmps154
    go_wp2
    go_ret
    exact ⟨by rfl, rfl⟩
theorem textR_w (n : Int) (h0 : 0 ≤ n) (h9 : n ≤ 9) (w : World) : Calls prog 132 #[.int .i64 n] w fun e w' => e = .returned (.string (bA [dgB n])) ∧ w' = w := by
  have hn : n = 0 ∨ n = 1 ∨ n = 2 ∨ n = 3 ∨ n = 4 ∨ n = 5 ∨ n = 6 ∨ n = 7 ∨ n = 8 ∨ n = 9 := by omega
  clear h0 h9
  rcases hn with rfl | rfl | rfl | rfl | rfl | rfl | rfl | rfl | rfl | rfl <;>
  · go_enter func132, ntmps132
    go_wp2
    refine wp_loop_rounds 1 ?_
    rw [rounds_succ]
    go_wp2
    go_ret
    exact ⟨by rfl, rfl⟩

theorem ints_at {w : World} {a : Option Addr} {k c : Nat} {t : Int → Int} {o n : Int} (h : IsInts w (.slice a k c) t o n) (hk : k ≠ 0) : ∃ b off, a = some ⟨b, off, none⟩ ∧ ∀ j, j < k → w.cell? ⟨b, off + j, none⟩ = some (.int .i64 (t (o + (j : Int)))) := by
  obtain ⟨a', m', c', e, -, -, h3⟩ := h
  simp only [Value.slice.injEq] at e
  obtain ⟨rfl, rfl, rfl⟩ := e
  exact h3 hk
theorem ints_len {w : World} {a : Option Addr} {k c : Nat} {t : Int → Int} {o n : Int} (h : IsInts w (.slice a k c) t o n) : (k : Int) = n := by
  obtain ⟨a', m', c', e, -, h2, -⟩ := h
  simp only [Value.slice.injEq] at e
  omega

set_option maxHeartbeats 1600000 in
theorem printMove_w {w : World} {c : M5} {m : MvD} (hm : M5Ok w c m) (hd : DigM m) (hn : m.bn ≤ 1000) (hsn : m.sn ≤ 1000) :
    Calls prog 120 #[.agg #[.int .i64 c.f1, .int .i64 c.f2, .bool c.xb, .string c.s, .slice c.a c.k c.c]] w fun e w' => e = .returned (.string (bA (moveL m))) ∧ Below w.heap.size w w' := by
  obtain ⟨f1, f2, xb, s, a, k, cc⟩ := c
  obtain ⟨h1, h2, h3, h4, h5⟩ := hm
  dsimp only at h1 h2 h3 h4 h5 ⊢
  obtain ⟨⟨d1, d2⟩, ⟨d3, d4⟩, d5⟩ := hd
  have hk := ints_len h5
  have eT : tchs m = intsL m.t m.bo k := by unfold tchs; rw [← hk, Int.toNat_natCast]
  have hs := bA_str h4
  have hsz : (s.size : Int) ≤ 1000 := by have := str_size h4; omega
  have hB : Below w.heap.size w (w.alloc (.cells #[.int .i64 f1, .int .i64 f2, .bool xb, .string s, .slice a k cc] 27)) := (Below.refl _ _).alloc (Nat.le_refl _) _
  have hx0 := at_new w #[.int .i64 f1, .int .i64 f2, .bool xb, .string s, .slice a k cc] 27
  rw [← h1] at d1 d2
  rw [← h2] at d3 d4
  have Hm : Hid ((f1 = m.fr ∧ f2 = m.to ∧ xb = decide (m.x ≠ 0)) ∧ s = bA (strL m.y m.so m.sn) ∧ tchs m = intsL m.t m.bo k ∧ (k : Int) = m.bn) := Lib.hid ⟨⟨h1, h2, h3⟩, hs, eT, hk⟩
  clear h1 h2 h3 h4 hs eT hk
  cases xb with
  | false =>
    go_enter func120, ntmps120
    go_wp2_with fail
    generalize w.alloc (.cells #[.int .i64 f1, .int .i64 f2, .bool false, .string s, .slice a k cc] 27) = W0 at hB hx0 ⊢
    obtain ⟨⟨x0, x1, x2, x3, x4⟩, -⟩ := box5 hx0
    have hdr : Below W0.heap.size W0 W0.drew := (Below.refl _ _).drew
    have hxD : At W0.drew w.heap.size #[.int .i64 f1, .int .i64 f2, .bool false, .string s, .slice a k cc] 27 := hx0
    have hbD := hB.drew
    have y1 : (bA [dgB f1]).size = 1 := rfl
    have y2 : (bA [dgB f2]).size = 1 := rfl
    have hl0 : ¬ (9223372036854775807 < 3 + s.size) := by omega
    go_region_held3 (fun W => W.cell? ⟨w.heap.size, 0, none⟩ = some (.int .i64 f1) ∧ W.cell? ⟨w.heap.size, 1, none⟩ = some (.int .i64 f2) ∧ W.cell? ⟨w.heap.size, 3, none⟩ = some (.string s) ∧ W.cell? ⟨w.heap.size, 4, none⟩ = some (.slice a k cc) ∧ Below W0.heap.size W0 W)
      (go_keep)
      (first
        | (go_at_call 154; first | (refine Calls.mono (digit_w f1 d1 d2 _) ?_; rintro e W ⟨rfl, rfl⟩) | (refine Calls.mono (digit_w f2 d3 d4 _) ?_; rintro e W ⟨rfl, rfl⟩)))
    clear x0 x1 x2 x3 x4 hx0 hB hdr y1 y2 hl0
    generalize W0.drew = W at hxD hbD ⊢
    obtain ⟨⟨x0, x1, x2, x3, x4⟩, -⟩ := box5 hxD
    have hmk : (if m.x = 0 then (45 : UInt8) else 120) = 45 := by
      have h := Hm.out.1.2.2
      by_cases hx : m.x = 0
      · simp [hx] at h ⊢
      · simp [hx] at h ⊢
    obtain ⟨S0, hS0⟩ : ∃ S0 : ByteArray, bA [dgB f1] ++ { data := #[45] } ++ bA [dgB f2] ++ s = S0 := ⟨_, rfl⟩
    rw [hS0]
    have HS0 : Hid (S0 = bA ([dgB m.fr] ++ [if m.x = 0 then 45 else 120] ++ [dgB m.to] ++ strL m.y m.so m.sn)) := Lib.hid (by
      rw [← hS0, hmk, ← Hm.out.1.1, ← Hm.out.1.2.1, Hm.out.2.1, ← bA_append, ← bA_append, ← bA_append]; rfl)
    have hz0 : (S0.size : Int) ≤ 1003 := by
      have e : S0.size = 1 + 1 + 1 + s.size := by rw [← hS0]; simp [ByteArray.size_append, bA]; rfl
      omega
    clear hS0 hmk
    by_cases hk0 : k = 0
    · subst hk0
      go_wp2_with fail
      refine wp_loop_rounds 1 ?_
      rw [rounds_succ]
      go_wp2
      go_ret
      refine ⟨?_, hbD⟩
      have hT : tchs m = [] := Hm.out.2.2.1
      rw [HS0.out]
      unfold moveL
      rw [hT]
      simp
    · have hk1 : (0 : Int) < (k : Int) := by omega
      have hk2 : 0 < k := by omega
      have hk3 : decide (0 < k) = true := by simp [hk2]
      have hkm : (k : Int) ≤ 1000 := by have := Hm.out.2.2.2; omega
      obtain ⟨b, off, rfl, hj⟩ := ints_at h5 hk0
      obtain ⟨pre, hpre⟩ : ∃ pre, pre = [dgB m.fr] ++ [if m.x = 0 then 45 else 120] ++ [dgB m.to] ++ strL m.y m.so m.sn ++ [58] := ⟨_, rfl⟩
      have HP := Lib.hid hpre
      have HS1 : Hid (S0 ++ { data := #[58] } = bA pre) := Lib.hid (by rw [hpre, HS0.out, ← bA_append]; rfl)
      clear hpre
      have hl1 : ¬ (9223372036854775807 < S0.size + 1) := by omega
      have hz1 : ((S0 ++ { data := #[58] } : ByteArray).size : Int) ≤ 1004 := by
        have e : (S0 ++ { data := #[58] } : ByteArray).size = S0.size + 1 := by simp [ByteArray.size_append]; rfl
        omega
      go_wp2_with fail
      generalize S0 ++ { data := #[58] } = S1 at HS1 hz1 ⊢
      go_loopw [4, 6, 30] (fun t _ z wr => ∃ (i : Nat), i ≤ k ∧ z = .int .i64 i ∧ StrIs t (pre ++ digs m i) (1004 + i) ∧ Below w.heap.size w wr) (fun _ _ z _ => k - (numOf' z).toNat)
      case atStart => exact ⟨0, Nat.zero_le _, rfl, ⟨S1, rfl, by rw [HS1.out]; simp [digs], by omega⟩, hbD⟩
      case round =>
        clear x0 x1 x2 x3 x4 hxD hbD HS1 hz1 HS0 hz0
        obtain ⟨i, hi, rfl, ⟨S, rfl, hSe, hzS⟩, hbel⟩ := hrel
        have HS := Lib.hid hSe
        clear hSe
        by_cases hin : i < k
        · have hT : (tchs m)[i]? = some (m.t (m.bo + (i : Int))) := by rw [Hm.out.2.2.1]; exact intsL_get hin
          have hd9 := d5 _ (List.mem_iff_getElem?.2 ⟨i, hT⟩)
          have p0 : wr.cell? ⟨b, off + i, none⟩ = some (.int .i64 (m.t (m.bo + (i : Int)))) := cell_b (hj i hin) hbel (cell_under (hj i hin))
          have HS2 : Hid (S ++ bA [dgB (m.t (m.bo + (i : Int)))] = bA (pre ++ digs m (i + 1))) := Lib.hid (by
            rw [HS.out, bA_append, digs, digs, List.take_add_one, hT]; simp)
          clear hj d5 hT
          obtain ⟨z, hz⟩ : ∃ z, m.t (m.bo + (i : Int)) = z := ⟨_, rfl⟩
          rw [hz] at p0 hd9 HS2
          have hzz : ((S ++ bA [dgB z]).size : Int) ≤ 1004 + (i + 1 : Nat) := by
            have e : (S ++ bA [dgB z]).size = S.size + 1 := by simp [ByteArray.size_append]; rfl
            omega
          have y1 : (bA [dgB z]).size = 1 := rfl
          have hzS2 : ¬ (9223372036854775807 < S.size + 1) := by omega
          clear hz
          go_wp2_with fail
          go_at_call 154
          refine (digit_w z hd9.1 hd9.2 _).mono ?_
          rintro e w2 ⟨rfl, rfl⟩
          go_wp2
          go_roundw
          case rel => exact ⟨i + 1, by omega, by go_num, ⟨_, rfl, HS2.out, hzz⟩, hbel⟩
          case measure => simp [numOf'] <;> omega
        · obtain rfl : i = k := by omega
          clear hj
          go_wp2
          go_ret
          refine ⟨?_, hbel⟩
          have hl : (tchs m).length = i := by rw [Hm.out.2.2.1, length_intsL]
          rw [HS.out, HP.out, digs, List.take_of_length_le (by omega)]
          unfold moveL
          rw [if_neg (by omega : ¬ (tchs m).length = 0)]
          rfl
  | true =>
    go_enter func120, ntmps120
    go_wp2_with fail
    generalize w.alloc (.cells #[.int .i64 f1, .int .i64 f2, .bool true, .string s, .slice a k cc] 27) = W0 at hB hx0 ⊢
    obtain ⟨⟨x0, x1, x2, x3, x4⟩, -⟩ := box5 hx0
    have hdr : Below W0.heap.size W0 W0.drew := (Below.refl _ _).drew
    have hxD : At W0.drew w.heap.size #[.int .i64 f1, .int .i64 f2, .bool true, .string s, .slice a k cc] 27 := hx0
    have hbD := hB.drew
    have y1 : (bA [dgB f1]).size = 1 := rfl
    have y2 : (bA [dgB f2]).size = 1 := rfl
    have hl0 : ¬ (9223372036854775807 < 3 + s.size) := by omega
    go_region_held3 (fun W => W.cell? ⟨w.heap.size, 0, none⟩ = some (.int .i64 f1) ∧ W.cell? ⟨w.heap.size, 1, none⟩ = some (.int .i64 f2) ∧ W.cell? ⟨w.heap.size, 3, none⟩ = some (.string s) ∧ W.cell? ⟨w.heap.size, 4, none⟩ = some (.slice a k cc) ∧ Below W0.heap.size W0 W)
      (go_keep)
      (first
        | (go_at_call 154; first | (refine Calls.mono (digit_w f1 d1 d2 _) ?_; rintro e W ⟨rfl, rfl⟩) | (refine Calls.mono (digit_w f2 d3 d4 _) ?_; rintro e W ⟨rfl, rfl⟩)))
    clear x0 x1 x2 x3 x4 hx0 hB hdr y1 y2 hl0
    generalize W0.drew = W at hxD hbD ⊢
    obtain ⟨⟨x0, x1, x2, x3, x4⟩, -⟩ := box5 hxD
    have hmk : (if m.x = 0 then (45 : UInt8) else 120) = 120 := by
      have h := Hm.out.1.2.2
      by_cases hx : m.x = 0
      · simp [hx] at h ⊢
      · simp [hx] at h ⊢
    obtain ⟨S0, hS0⟩ : ∃ S0 : ByteArray, bA [dgB f1] ++ { data := #[120] } ++ bA [dgB f2] ++ s = S0 := ⟨_, rfl⟩
    rw [hS0]
    have HS0 : Hid (S0 = bA ([dgB m.fr] ++ [if m.x = 0 then 45 else 120] ++ [dgB m.to] ++ strL m.y m.so m.sn)) := Lib.hid (by
      rw [← hS0, hmk, ← Hm.out.1.1, ← Hm.out.1.2.1, Hm.out.2.1, ← bA_append, ← bA_append, ← bA_append]; rfl)
    have hz0 : (S0.size : Int) ≤ 1003 := by
      have e : S0.size = 1 + 1 + 1 + s.size := by rw [← hS0]; simp [ByteArray.size_append, bA]; rfl
      omega
    clear hS0 hmk
    by_cases hk0 : k = 0
    · subst hk0
      go_wp2_with fail
      refine wp_loop_rounds 1 ?_
      rw [rounds_succ]
      go_wp2
      go_ret
      refine ⟨?_, hbD⟩
      have hT : tchs m = [] := Hm.out.2.2.1
      rw [HS0.out]
      unfold moveL
      rw [hT]
      simp
    · have hk1 : (0 : Int) < (k : Int) := by omega
      have hk2 : 0 < k := by omega
      have hk3 : decide (0 < k) = true := by simp [hk2]
      have hkm : (k : Int) ≤ 1000 := by have := Hm.out.2.2.2; omega
      obtain ⟨b, off, rfl, hj⟩ := ints_at h5 hk0
      obtain ⟨pre, hpre⟩ : ∃ pre, pre = [dgB m.fr] ++ [if m.x = 0 then 45 else 120] ++ [dgB m.to] ++ strL m.y m.so m.sn ++ [58] := ⟨_, rfl⟩
      have HP := Lib.hid hpre
      have HS1 : Hid (S0 ++ { data := #[58] } = bA pre) := Lib.hid (by rw [hpre, HS0.out, ← bA_append]; rfl)
      clear hpre
      have hl1 : ¬ (9223372036854775807 < S0.size + 1) := by omega
      have hz1 : ((S0 ++ { data := #[58] } : ByteArray).size : Int) ≤ 1004 := by
        have e : (S0 ++ { data := #[58] } : ByteArray).size = S0.size + 1 := by simp [ByteArray.size_append]; rfl
        omega
      go_wp2_with fail
      generalize S0 ++ { data := #[58] } = S1 at HS1 hz1 ⊢
      go_loopw [4, 6, 30] (fun t _ z wr => ∃ (i : Nat), i ≤ k ∧ z = .int .i64 i ∧ StrIs t (pre ++ digs m i) (1004 + i) ∧ Below w.heap.size w wr) (fun _ _ z _ => k - (numOf' z).toNat)
      case atStart => exact ⟨0, Nat.zero_le _, rfl, ⟨S1, rfl, by rw [HS1.out]; simp [digs], by omega⟩, hbD⟩
      case round =>
        clear x0 x1 x2 x3 x4 hxD hbD HS1 hz1 HS0 hz0
        obtain ⟨i, hi, rfl, ⟨S, rfl, hSe, hzS⟩, hbel⟩ := hrel
        have HS := Lib.hid hSe
        clear hSe
        by_cases hin : i < k
        · have hT : (tchs m)[i]? = some (m.t (m.bo + (i : Int))) := by rw [Hm.out.2.2.1]; exact intsL_get hin
          have hd9 := d5 _ (List.mem_iff_getElem?.2 ⟨i, hT⟩)
          have p0 : wr.cell? ⟨b, off + i, none⟩ = some (.int .i64 (m.t (m.bo + (i : Int)))) := cell_b (hj i hin) hbel (cell_under (hj i hin))
          have HS2 : Hid (S ++ bA [dgB (m.t (m.bo + (i : Int)))] = bA (pre ++ digs m (i + 1))) := Lib.hid (by
            rw [HS.out, bA_append, digs, digs, List.take_add_one, hT]; simp)
          clear hj d5 hT
          obtain ⟨z, hz⟩ : ∃ z, m.t (m.bo + (i : Int)) = z := ⟨_, rfl⟩
          rw [hz] at p0 hd9 HS2
          have hzz : ((S ++ bA [dgB z]).size : Int) ≤ 1004 + (i + 1 : Nat) := by
            have e : (S ++ bA [dgB z]).size = S.size + 1 := by simp [ByteArray.size_append]; rfl
            omega
          have y1 : (bA [dgB z]).size = 1 := rfl
          have hzS2 : ¬ (9223372036854775807 < S.size + 1) := by omega
          clear hz
          go_wp2_with fail
          go_at_call 154
          refine (digit_w z hd9.1 hd9.2 _).mono ?_
          rintro e w2 ⟨rfl, rfl⟩
          go_wp2
          go_roundw
          case rel => exact ⟨i + 1, by omega, by go_num, ⟨_, rfl, HS2.out, hzz⟩, hbel⟩
          case measure => simp [numOf'] <;> omega
        · obtain rfl : i = k := by omega
          clear hj
          go_wp2
          go_ret
          refine ⟨?_, hbel⟩
          have hl : (tchs m).length = i := by rw [Hm.out.2.2.1, length_intsL]
          rw [HS.out, HP.out, digs, List.take_of_length_le (by omega)]
          unfold moveL
          rw [if_neg (by omega : ¬ (tchs m).length = 0)]
          rfl
end Go.Proofs.Tryz
