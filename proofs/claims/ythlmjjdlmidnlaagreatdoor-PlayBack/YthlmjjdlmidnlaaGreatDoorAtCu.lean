/- A move's word read, on both sides: by the kit's walk. -/
import Derived.Test.YthlmjjdlmidnlaaGreatDoorAsUu

namespace Go.Proofs.Tryz
open Go Go.Am Go.RowKit Go.Dr
set_option maxRecDepth 100000

/-- A byte of a string. -/
theorem run_idx (l : List UInt8) (i : Nat) (h : i < l.length) (w : World) : (Instr.index 9 (.string (bA l)) (.int .i64 (i : Int))).run prog w = .ok (.int .u8 ((by' l i).toNat : Int)) w := by
  rw [run_index_string w 9 (bA l) .i64 (i : Int) underlying9, dif_pos ⟨by omega, by rw [bA_size]; omega⟩]
  have : (bA l)[(i : Int).toNat]'(by rw [bA_size]; omega) = by' l i := by
    unfold by'
    rw [List.getElem?_eq_getElem h]
    rfl
  rw [this]
theorem number_w (b : UInt8) (w : World) : Calls prog 131 #[.int .u8 (b.toNat : Int)] w fun e w' => e = .returned (.tuple #[.int .i64 (digV b), .bool (dig b)]) ∧ w' = w := by
  have hb : b.toNat < 256 := b.toNat_lt
  unfold digV dig
  obtain ⟨n, hn⟩ : ∃ n, b.toNat = n := ⟨_, rfl⟩
  rw [hn] at hb ⊢
  by_cases h1 : (48 : Int) ≤ (n : Int)
  · by_cases h2 : (n : Int) ≤ 57
    · rw [decide_eq_true (by omega)]
      go_enter func131, ntmps131
      go_wp2
      go_ret2
      exact ⟨rfl, rfl⟩
    · rw [decide_eq_false (by omega)]
      go_enter func131, ntmps131
      go_wp2
      go_ret2
      exact ⟨rfl, rfl⟩
  · rw [decide_eq_false (by omega)]
    go_enter func131, ntmps131
    go_wp2
    go_ret2
    exact ⟨rfl, rfl⟩
theorem isDigit_w (b : UInt8) (w : World) : Calls prog 96 #[.int .u8 (b.toNat : Int)] w fun e w' => e = .returned (.bool (dig b)) ∧ w' = w := by
  have hb : b.toNat < 256 := b.toNat_lt
  unfold dig
  obtain ⟨n, hn⟩ : ∃ n, b.toNat = n := ⟨_, rfl⟩
  rw [hn] at hb ⊢
  by_cases h1 : (48 : Int) ≤ (n : Int)
  · by_cases h2 : (n : Int) ≤ 57
    · rw [decide_eq_true (by omega)]
      go_enter func96, ntmps96
      go_wp2
      go_ret
      exact ⟨rfl, rfl⟩
    · rw [decide_eq_false (by omega)]
      go_enter func96, ntmps96
      go_wp2
      go_ret
      exact ⟨rfl, rfl⟩
  · rw [decide_eq_false (by omega)]
    go_enter func96, ntmps96
    go_wp2
    go_ret
    exact ⟨rfl, rfl⟩

def zM5 : M5 := ⟨0, 0, false, ⟨#[]⟩, none, 0, 0⟩
/-- A move read, and whether it is one. -/
def PmAns (w' : World) (base : Nat) (e : Ending) (l : List UInt8) : Prop := ∃ c : M5, e = .returned (.tuple #[.agg #[.int .i64 c.f1, .int .i64 c.f2, .bool c.xb, .string c.s, .slice c.a c.k c.c], .bool (pmOk l)]) ∧ (pmOk l = true → M5Own w' base c (pmM l))
theorem pm_no {w' : World} {base : Nat} {l : List UInt8} (h : pmOk l = false) : PmAns w' base (.returned (.tuple #[.agg #[.int .i64 0, .int .i64 0, .bool false, .string ⟨#[]⟩, .slice none 0 0], .bool false])) l :=
  ⟨zM5, by rw [h]; rfl, fun q => by rw [h] at q; cases q⟩
theorem pm_head {l : List UInt8} (h : pmHead l = false) : pmOk l = false := by
  unfold pmOk
  rw [h]; rfl
theorem slice34 {l : List UInt8} (h : 4 ≤ l.length) : (bA l).extract 3 4 = bA [by' l 3] := by
  apply ByteArray.ext
  simp only [bA, ByteArray.data_extract]
  apply Array.ext'
  rw [Array.toList_extract]
  unfold by'
  rw [List.getElem?_eq_getElem (by omega : 3 < l.length)]
  simp only [List.extract_eq_take_drop]
  rw [List.take_one, List.head?_drop, List.getElem?_eq_getElem (by omega : 3 < l.length)]
  rfl
theorem drop_snoc {l : List UInt8} {i : Nat} (h5 : 5 ≤ i) (h : i < l.length) : (l.drop 5).take (i + 1 - 5) = (l.drop 5).take (i - 5) ++ [by' l i] := by
  rw [show i + 1 - 5 = (i - 5) + 1 by omega, List.take_add_one, List.getElem?_drop, show 5 + (i - 5) = i by omega]
  unfold by'
  rw [List.getElem?_eq_getElem h]
  rfl
/-- The first touches of a word. -/
def tchK (l : List UInt8) (i : Nat) : List Int := ((l.drop 5).take (i - 5)).map digV
theorem tchK_succ {l : List UInt8} {i : Nat} (h5 : 5 ≤ i) (h : i < l.length) : tchK l (i + 1) = tchK l i ++ [digV (by' l i)] := by
  unfold tchK
  rw [drop_snoc h5 h, List.map_append]; rfl
def allK5 (l : List UInt8) (i : Nat) : Bool := ((l.drop 5).take (i - 5)).all dig
theorem allK5_succ {l : List UInt8} {i : Nat} (h5 : 5 ≤ i) (h : i < l.length) : allK5 l (i + 1) = (allK5 l i && dig (by' l i)) := by
  unfold allK5
  rw [drop_snoc h5 h, List.all_append]; simp
theorem tchK_end {l : List UInt8} {i : Nat} (h : ¬ i < l.length) : tchK l i = (l.drop 5).map digV := by
  unfold tchK
  rw [List.take_of_length_le (by rw [List.length_drop]; omega)]
theorem allK5_end {l : List UInt8} {i : Nat} (h : ¬ i < l.length) : allK5 l i = (l.drop 5).all dig := by
  unfold allK5
  rw [List.take_of_length_le (by rw [List.length_drop]; omega)]

set_option maxHeartbeats 3200000 in
theorem parseMove_w (l : List UInt8) (hl : l.length ≤ 100000) (w : World) :
    Calls prog 87 #[.string (bA l)] w fun e w' => PmAns w' w.heap.size e l ∧ Below w.heap.size w w' := by
  have hs : (bA l).size = l.length := bA_size l
  have hB : Below w.heap.size w (w.alloc (.cells #[.int .i64 0, .int .i64 0, .bool false, .string ⟨#[]⟩, .slice none 0 0] 27)) := (Below.refl _ _).alloc (Nat.le_refl _) _
  have hx0 := at_new w #[.int .i64 0, .int .i64 0, .bool false, .string ⟨#[]⟩, .slice none 0 0] 27
  by_cases hh : pmHead l = false
  · have HN := Lib.hid (pm_head hh)
    unfold pmHead at hh
    have key : (l.length : Int) < 4 ∨ (4 ≤ (l.length : Int) ∧ (l.length : Int) = 5) ∨ (4 ≤ (l.length : Int) ∧ ¬ (l.length : Int) = 5 ∧ ¬ ((by' l 1).toNat : Int) = 45 ∧ ¬ ((by' l 1).toNat : Int) = 120) ∨ (4 ≤ (l.length : Int) ∧ ¬ (l.length : Int) = 5 ∧ (((by' l 1).toNat : Int) = 45 ∨ (¬ ((by' l 1).toNat : Int) = 45 ∧ ((by' l 1).toNat : Int) = 120)) ∧ (((by' l 3).toNat : Int) < 97 ∨ (¬ ((by' l 3).toNat : Int) < 97 ∧ 122 < ((by' l 3).toNat : Int)))) := by
      by_cases q1 : 4 ≤ l.length
      case neg => left; omega
      by_cases q2 : l.length = 5
      · right; left; omega
      right; right
      have u : ∀ (b : UInt8) (k : Nat), k < 256 → (b = UInt8.ofNat k ↔ (b.toNat : Int) = k) := fun b k hk => by
        constructor
        · rintro rfl; rw [UInt8.toNat_ofNat']; omega
        · intro e; apply UInt8.toNat_inj.1; rw [UInt8.toNat_ofNat']; omega
      have u1 := u (by' l 1) 45 (by decide)
      have u2 := u (by' l 1) 120 (by decide)
      rw [decide_eq_true q1, decide_eq_true q2, Bool.true_and, Bool.true_and, Bool.and_eq_false_iff] at hh
      by_cases q3 : by' l 1 = 45
      · right
        refine ⟨by omega, by omega, .inl (u1.1 q3), ?_⟩
        rcases hh with hh | hh
        · simp [q3] at hh
        · rw [decide_eq_false_iff_not] at hh; omega
      · by_cases q4 : by' l 1 = 120
        · right
          refine ⟨by omega, by omega, .inr ⟨fun e => q3 (u1.2 e), u2.1 q4⟩, ?_⟩
          rcases hh with hh | hh
          · simp [q4] at hh
          · rw [decide_eq_false_iff_not] at hh; omega
        · left
          exact ⟨by omega, by omega, fun e => q3 (u1.2 e), fun e => q4 (u2.2 e)⟩
    clear hh
    rcases key with k1 | ⟨k1, k2⟩ | ⟨k1, k2, k3, k4⟩ | ⟨k1, k2, k3 | ⟨k3, k3'⟩, k4 | ⟨k4, k4'⟩⟩
    all_goals (
      try (have i1 : ∀ w, (Instr.index 9 (.string (bA l)) (.int .i64 1)).run prog w = .ok (.int .u8 ((by' l 1).toNat : Int)) w := run_idx l 1 (by omega)
           have i3 : ∀ w, (Instr.index 9 (.string (bA l)) (.int .i64 3)).run prog w = .ok (.int .u8 ((by' l 3).toNat : Int)) w := run_idx l 3 (by omega))
      generalize by' l 1 = b1 at *
      generalize by' l 3 = b3 at *
      obtain ⟨⟨z0, z1, z2, z3, z4⟩, g0, g1, g2, g3, g4⟩ := box5 hx0
      go_enter func87, ntmps87
      go_wp2
      refine bodyPost_ret (v := .tuple #[.agg #[.int .i64 0, .int .i64 0, .bool false, .string ⟨#[]⟩, .slice none 0 0], .bool false]) (by simp [results, results87, go_sem, z0, z1, z2, z3, z4]) rfl ⟨pm_no HN.out, ?_⟩
      exact hB)
  · have hh' : pmHead l = true := by simpa using hh
    have HP : Hid (pmOk l = ((dig (by' l 0) && dig (by' l 2) && (l.length == 4 || by' l 4 == 58)) && (l.drop 5).all dig)) := Lib.hid (by unfold pmOk; rw [hh']; simp)
    have u : ∀ (b : UInt8) (k : Nat), k < 256 → (b = UInt8.ofNat k ↔ (b.toNat : Int) = k) := fun b k hk => by
      constructor
      · rintro rfl; rw [UInt8.toNat_ofNat']; omega
      · intro e; apply UInt8.toNat_inj.1; rw [UInt8.toNat_ofNat']; omega
    have u1 := u (by' l 1) 45 (by decide)
    have u2 := u (by' l 1) 120 (by decide)
    have u4 := u (by' l 4) 58 (by decide)
    unfold pmHead at hh'
    simp only [Bool.and_eq_true, decide_eq_true_eq, Bool.or_eq_true, beq_iff_eq] at hh'
    obtain ⟨⟨⟨q1, q2⟩, q3⟩, q4, q5⟩ := hh'
    have k1 : 4 ≤ (l.length : Int) := by omega
    have k2 : ((l.length : Int) == 5) = false := by rw [beq_eq_false_iff_ne]; omega
    have k3 : ((by' l 1).toNat : Int) = 45 ∨ (¬ ((by' l 1).toNat : Int) = 45 ∧ ((by' l 1).toNat : Int) = 120) := by
      rcases q3 with q3 | q3
      · left; exact u1.1 q3
      · right; have := u2.1 q3; exact ⟨by omega, this⟩
    have k4 : 97 ≤ ((by' l 3).toNat : Int) := by omega
    have k5 : ((by' l 3).toNat : Int) ≤ 122 := by omega
    have i0 : ∀ w, (Instr.index 9 (.string (bA l)) (.int .i64 0)).run prog w = .ok (.int .u8 ((by' l 0).toNat : Int)) w := run_idx l 0 (by omega)
    have i1 : ∀ w, (Instr.index 9 (.string (bA l)) (.int .i64 1)).run prog w = .ok (.int .u8 ((by' l 1).toNat : Int)) w := run_idx l 1 (by omega)
    have i2 : ∀ w, (Instr.index 9 (.string (bA l)) (.int .i64 2)).run prog w = .ok (.int .u8 ((by' l 2).toNat : Int)) w := run_idx l 2 (by omega)
    have i3 : ∀ w, (Instr.index 9 (.string (bA l)) (.int .i64 3)).run prog w = .ok (.int .u8 ((by' l 3).toNat : Int)) w := run_idx l 3 (by omega)
    have e34 := slice34 (l := l) (by omega)
    have HU1 : Hid ((((by' l 1).toNat : Int) == 120) = decide (by' l 1 = 120)) := Lib.hid (by rw [Bool.eq_iff_iff, beq_iff_eq, decide_eq_true_eq]; exact u2.symm)
    have HU4 := Lib.hid u4
    obtain ⟨b3, hb3⟩ : ∃ b3, by' l 3 = b3 := ⟨_, rfl⟩
    obtain ⟨b1, hb1⟩ : ∃ b1, by' l 1 = b1 := ⟨_, rfl⟩
    rw [hb3] at i3 e34 k4 k5
    rw [hb1] at i1 k3
    clear u u1 u2 u4 q1 q2 q3 q4 q5 hh
    obtain ⟨i3', hi3', hz30, hz31, hz32⟩ := info_parts info3
    obtain ⟨b0, hb0⟩ : ∃ b, by' l 0 = b := ⟨_, rfl⟩
    obtain ⟨b2, hb2⟩ : ∃ b, by' l 2 = b := ⟨_, rfl⟩
    obtain ⟨b4, hb4⟩ : ∃ b, by' l 4 = b := ⟨_, rfl⟩
    obtain ⟨n0, hn0⟩ : ∃ n, digV b0 = n := ⟨_, rfl⟩
    obtain ⟨n2, hn2⟩ : ∃ n, digV b2 = n := ⟨_, rfl⟩
    obtain ⟨d0, hd0⟩ : ∃ d, dig b0 = d := ⟨_, rfl⟩
    obtain ⟨d2, hd2⟩ : ∃ d, dig b2 = d := ⟨_, rfl⟩
    obtain ⟨x1, hx1⟩ : ∃ x, ((b1.toNat : Int) == 120) = x := ⟨_, rfl⟩
    have c0 : ∀ W, Calls prog 131 #[.int .u8 (b0.toNat : Int)] W fun e w' => e = .returned (.tuple #[.int .i64 n0, .bool d0]) ∧ w' = W := fun W => by rw [← hn0, ← hd0]; exact number_w _ W
    have c2 : ∀ W, Calls prog 131 #[.int .u8 (b2.toNat : Int)] W fun e w' => e = .returned (.tuple #[.int .i64 n2, .bool d2]) ∧ w' = W := fun W => by rw [← hn2, ← hd2]; exact number_w _ W
    obtain ⟨F0, hF0⟩ : ∃ F, (d0 && d2 && (l.length == 4 || b4 == 58)) = F := ⟨_, rfl⟩
    have HF : Hid (pmOk l = (F0 && (l.drop 5).all dig) ∧ (pmM l).fr = n0 ∧ (pmM l).to = n2 ∧ decide ((pmM l).x ≠ 0) = x1 ∧ IsStr (.string (bA [b3])) (pmM l).y (pmM l).so (pmM l).sn) := Lib.hid (by
      refine ⟨?_, by unfold pmM; rw [hb0]; exact hn0, by unfold pmM; rw [hb2]; exact hn2, ?_, ?_⟩
      · rw [← hF0, ← hd0, ← hd2, HP.out, hb0, hb2, hb4]
      · rw [← hx1, ← hb1, HU1.out]
        unfold pmM
        dsimp only
        by_cases q : by' l 1 = 120 <;> simp [q]
      · refine ⟨[b3], rfl, rfl, fun j b h => ?_⟩
        match j, h with
        | 0, h => cases h; unfold pmM; rw [hb3])
    have hu4 : b4 = 58 ↔ (b4.toNat : Int) = 58 := by rw [← hb4]; exact HU4.out
    rw [hb0] at i0
    rw [hb2] at i2
    clear HP HU1 HU4 hb0 hb1 hb2 hb3 hn0 hn2 hd0 hd2
    go_enter func87, ntmps87
    go_upto_region 1 with fail
    generalize w.alloc (.cells #[.int .i64 0, .int .i64 0, .bool false, .string ⟨#[]⟩, .slice none 0 0] 27) = W0 at hB hx0 ⊢
    go_cut [40] (fun s40 wx => s40 = .bool false ∧ wx = W0)
    case first =>
      have z1 : decide ((l.length : Int) < 4) = false := decide_eq_false (by omega)
      have z2 : decide ((b3.toNat : Int) < 97) = false := decide_eq_false (by omega)
      have z3 : decide (122 < (b3.toNat : Int)) = false := decide_eq_false (by omega)
      rcases k3 with k3 | ⟨k3, k3'⟩ <;> (go_wp2_with fail; go_meet; exact ⟨rfl, rfl⟩)
    case rest =>
      obtain ⟨rfl, eW⟩ := hcut
      subst eW
      go_wp2_with fail
      go_at_call 131
      refine (c0 _).mono ?_
      rintro e w' ⟨rfl, rfl⟩
      go_wp2_with fail
      go_at_call 131
      refine (c2 _).mono ?_
      rintro e w' ⟨rfl, rfl⟩
      go_wp2_with fail
      go_region
      obtain ⟨W0, eW0⟩ : ∃ W : World, W = w' := ⟨_, rfl⟩
      subst eW0
      have hxA := (hx0.alloc (.cells #[.int .i64 n0, .int .i64 n2, .bool x1, .string (bA [b3]), .slice none 0 0] 27)).drew
      have hyA := (at_new W0 #[.int .i64 n0, .int .i64 n2, .bool x1, .string (bA [b3]), .slice none 0 0] 27).drew
      have hbA := (hB.alloc hB.size (.cells #[.int .i64 n0, .int .i64 n2, .bool x1, .string (bA [b3]), .slice none 0 0] 27)).drew
      have hlt := hx0.lt
      have hsz : W0.heap.size < (W0.alloc (.cells #[.int .i64 n0, .int .i64 n2, .bool x1, .string (bA [b3]), .slice none 0 0] 27)).drew.heap.size := by simp
      generalize (W0.alloc (.cells #[.int .i64 n0, .int .i64 n2, .bool x1, .string (bA [b3]), .slice none 0 0] 27)).drew = W1 at hxA hyA hbA hsz ⊢
      clear hx1 hx0 hB i0 i1 i2 i3 k3 k4 k5 e34 c0 c2
      go_upto_region 6 with fail
      go_cut [9] (fun s9 wx => s9 = .bool F0 ∧ wx = W1)
      case first =>
        have q4 : (((l.length : Int)) == 4) = (l.length == 4) := by rw [Bool.eq_iff_iff, beq_iff_eq, beq_iff_eq]; omega
        have q58 : (((b4.toNat : Int)) == 58) = (b4 == 58) := by rw [Bool.eq_iff_iff, beq_iff_eq, beq_iff_eq]; exact hu4.symm
        have i4 : ¬ l.length = 4 → ∀ w, (Instr.index 9 (.string (bA l)) (.int .i64 4)).run prog w = .ok (.int .u8 (b4.toNat : Int)) w := fun h => by rw [← hb4]; exact run_idx l 4 (by omega)
        clear hu4 HF
        cases d0 with
        | false =>
          obtain rfl : F0 = false := by rw [← hF0]; rfl
          clear q4 q58 i4
          go_wp2_with fail
          go_meet
          exact ⟨rfl, rfl⟩
        | true =>
          cases d2 with
          | false =>
            obtain rfl : F0 = false := by rw [← hF0]; rfl
            clear q4 q58 i4
            go_wp2_with fail
            go_meet
            exact ⟨rfl, rfl⟩
          | true =>
            rw [Bool.true_and, Bool.true_and] at hF0
            by_cases q : l.length = 4
            · have q' : (l.length == 4) = true := by rw [beq_iff_eq]; exact q
              obtain rfl : F0 = true := by rw [← hF0, q']; rfl
              rw [q'] at q4
              clear q58 i4 hF0 q'
              go_wp2_with fail
              go_meet
              exact ⟨rfl, rfl⟩
            · have q' : (l.length == 4) = false := by rw [beq_eq_false_iff_ne]; exact q
              have i4 := i4 q
              rw [q'] at q4 hF0
              rw [Bool.false_or] at hF0
              rw [hF0] at q58
              clear q' hF0
              cases F0 with
              | false => go_wp2_with fail; go_meet; exact ⟨rfl, rfl⟩
              | true => go_wp2_with fail; go_meet; exact ⟨rfl, rfl⟩
      case rest =>
        obtain ⟨rfl, eW⟩ := hcut
        subst eW
        obtain ⟨W1, eW1⟩ : ∃ W : World, W = wc := ⟨_, rfl⟩
        subst eW1
        have hrow := World.ownsRow_nil W1 W1.heap.size 3 1
        clear hF0 hu4 hb4
        go_wp2_with fail
        go_loopw [9, 10] (fun s9 s10 wr => ∃ (i : Nat) (v : Value) (fn : Bool), 5 ≤ i ∧ (i ≤ l.length ∨ i = 5) ∧ s10 = .int .i64 i ∧ s9 = .bool fn ∧ fn = (F0 && allK5 l i) ∧ At wr w.heap.size #[.int .i64 0, .int .i64 0, .bool false, .string ⟨#[]⟩, .slice none 0 0] 27 ∧ At wr W0.heap.size #[.int .i64 n0, .int .i64 n2, .bool x1, .string (bA [b3]), v] 27 ∧ wr.ownsRow W1.heap.size 3 1 v (i - 5) (vsOf (tchK l i)) ∧ Below w.heap.size w wr ∧ W1.heap.size ≤ wr.heap.size) (fun _ s10 _ => l.length + 5 - (numOf' s10).toNat)
        case atStart => exact ⟨5, _, F0, Nat.le_refl _, .inr rfl, rfl, rfl, by unfold allK5; simp, hxA, hyA, by simpa [tchK, vsOf] using hrow, hbA, Nat.le_refl _⟩
        case round =>
          clear hxA hyA hbA hrow
          obtain ⟨i, v, fn, hi5, hi, rfl, rfl, hfn, hxA, hyA, hrow, hbA, hsA⟩ := hrel
          by_cases hin : i < l.length
          · as_aux_lemma =>
              have ix := run_idx l i hin
              have cN := number_w (by' l i)
              have eT := tchK_succ hi5 hin
              have eA := allK5_succ hi5 hin
              generalize by' l i = b at ix cN eT eA
              obtain ⟨z, hz⟩ : ∃ z, digV b = z := ⟨_, rfl⟩
              obtain ⟨q, hq⟩ : ∃ q, dig b = q := ⟨_, rfl⟩
              rw [hz, hq] at cN
              rw [hz] at eT
              rw [hq] at eA
              have HA : Hid (allK5 l (i + 1) = (allK5 l i && q) ∧ fn = (F0 && allK5 l i) ∧ tchK l (i + 1) = tchK l i ++ [z]) := Lib.hid ⟨eA, hfn, eT⟩
              obtain ⟨⟨-, -, -, -, y4⟩, -, -, -, -, g4⟩ := box5 hyA
              obtain ⟨av, kv, cv, rfl⟩ := owns_slice hrow
              obtain ⟨xs, hxs⟩ : ∃ xs, vsOf (tchK l i) = xs := ⟨_, rfl⟩
              have HX := Lib.hid hxs
              rw [hxs] at hrow
              clear hz hq eA eT hfn hxs HF
              go_wp2_with fail
              go_at_call 131
              refine (cN _).mono ?_
              rintro e w' ⟨rfl, rfl⟩
              obtain ⟨W2, eW2⟩ : ∃ W : World, W = w' := ⟨_, rfl⟩
              subst eW2
              clear ix cN
              have fin : ∀ (v' : Value) (w3 : World), w3.ownsRow W1.heap.size 3 1 v' (i - 5 + 1) (xs ++ [.int .i64 z]) → (W2.alloc (.cells #[.int .i64 z] 3)).grownBy w3 ((.slice av kv cv : Value).ownBlock) → ∃ a k c, v' = .slice a k c ∧
                  At w3 W0.heap.size #[.int .i64 n0, .int .i64 n2, .bool x1, .string (bA [b3]), .slice av kv cv] 27 ∧ At (w3.setCell ⟨W0.heap.size, 4, none⟩ v') w.heap.size #[.int .i64 0, .int .i64 0, .bool false, .string ⟨#[]⟩, .slice none 0 0] 27 ∧
                  At (w3.setCell ⟨W0.heap.size, 4, none⟩ v') W0.heap.size #[.int .i64 n0, .int .i64 n2, .bool x1, .string (bA [b3]), v'] 27 ∧ (w3.setCell ⟨W0.heap.size, 4, none⟩ v').ownsRow W1.heap.size 3 1 v' (i + 1 - 5) (vsOf (tchK l (i + 1))) ∧
                  Below w.heap.size w (w3.setCell ⟨W0.heap.size, 4, none⟩ v') ∧ W1.heap.size ≤ (w3.setCell ⟨W0.heap.size, 4, none⟩ v').heap.size := fun v' w3 ho hg => by
                obtain ⟨a', k', c', rfl⟩ := owns_slice ho
                have hol := hrow.lt
                have keep : ∀ q, q < W1.heap.size → w3.heap[q]? = W2.heap[q]? := fun q hq => (hg.block q (by simp; omega) (fun e => by have := (hol _ e.symm).1; omega)).trans (Below.heap_alloc _ _ _ (by omega))
                have hy3 : At w3 W0.heap.size #[.int .i64 n0, .int .i64 n2, .bool x1, .string (bA [b3]), .slice av kv cv] 27 := (keep _ hsz).trans hyA
                have hx3 : At w3 w.heap.size #[.int .i64 0, .int .i64 0, .bool false, .string ⟨#[]⟩, .slice none 0 0] 27 := (keep _ (by omega)).trans hxA
                have hb3 : Below w.heap.size w w3 := (hbA.alloc hbA.size _).grown hg (by have := hbA.size; simp; omega) (fun q hq => by have := (hol q hq).1; omega)
                have hs3 : W1.heap.size ≤ w3.heap.size := by have := hg.size; simp at this; omega
                have hy4 := hy3.set 4 (.slice a' k' c')
                simp only [List.setIfInBounds_toArray, List.set_cons_zero, List.set_cons_succ] at hy4
                refine ⟨a', k', c', rfl, hy3, hx3.setCell (a := ⟨W0.heap.size, 4, none⟩) (by simp; omega) _, hy4, ?_, hb3.setCell (p := ⟨W0.heap.size, 4, none⟩) (by simp; omega) _, by rw [size_set]; exact hs3⟩
                have e1 : i + 1 - 5 = i - 5 + 1 := by omega
                have e2 : vsOf (tchK l (i + 1)) = xs ++ [.int .i64 z] := by rw [HA.out.2.2, ← HX.out]; simp [vsOf]
                rw [e1, e2]
                exact ownsRow_setCell_below ho (by exact hsz) _
              have Fin := Lib.hid fin
              clear fin
              cases fn <;> cases q
              all_goals (
                go_wp2_with (first
                  | (at_builtin; refine wpList_append_own _ rfl _ _ 25 rfl W1.heap.size 3 i3' (.int .i64 0) 1 8 underlying25 hi3' hz30 hz31 hz32 rfl (by decide) _ _ _ rfl (hrow.alloc _) ⟨W2.heap.size, 0, none⟩ 1 1 [.int .i64 z] rfl rfl ?c1 ?c2 ?c3 ?c4 ?c5 ?_)
                  | go_in)
                case c1 =>
                  intro q u hq
                  match q, hq with
                  | 0, hq => simp at hq; subst hq; simp [Addr.add]
                case c2 => intro u hu; simp at hu; subst hu; rfl
                case c3 => unfold maxLen; omega
                case c4 => omega
                case c5 => simp; omega
                intro v' w3 hown3 hgrow _
                obtain ⟨a', k', c', rfl, hy3, hx4, hy4, hr4, hb4, hs4⟩ := Fin.out v' w3 hown3 hgrow
                obtain ⟨⟨-, -, -, -, z4⟩, -, -, -, -, zg4⟩ := box5 hy3
                clear hown3 hgrow hrow hxA hyA hbA y4 g4
                go_wp2
                go_roundw
                case rel => exact ⟨i + 1, _, _, by omega, by omega, by go_num, rfl, by rw [HA.out.1, ← Bool.and_assoc, ← HA.out.2.1]; rfl, hx4, hy4, hr4, hb4, hs4⟩
                case measure => simp [numOf'] <;> omega)
          · as_aux_lemma =>
              obtain ⟨av, kv, cv, rfl⟩ := owns_slice hrow
              have hlen : i - 5 = (l.drop 5).length := by rw [List.length_drop]; omega
              have HO : Hid (M5Own wr W1.heap.size ⟨n0, n2, x1, bA [b3], av, kv, cv⟩ (pmM l)) := Lib.hid (by
                obtain ⟨f1, f2, f3, f4, f5⟩ := HF.out
                refine ⟨f2.symm, f3.symm, f4.symm, f5, ?_, Int.natCast_nonneg _⟩
                rw [tchs_pmM, ← tchK_end hin]
                have e : (pmM l).bn.toNat = i - 5 := by rw [hlen]; unfold pmM; exact Int.toNat_natCast _
                rw [e]
                exact hrow)
              have HP : Hid (pmOk l = fn) := Lib.hid (by rw [HF.out.1, hfn, allK5_end hin])
              obtain ⟨⟨y0, y1, y2, y3, y4⟩, -⟩ := box5 hyA
              obtain ⟨⟨x0, x1', x2, x3, x4⟩, g0, g1, g2, g3, g4⟩ := box5 hxA
              have hlt1 : w.heap.size < W1.heap.size := by omega
              clear hrow hfn HF hlen
              go_wp2
              refine bodyPost_ret (v := .tuple #[.agg #[.int .i64 n0, .int .i64 n2, .bool x1, .string (bA [b3]), .slice av kv cv], .bool fn]) (by simp [results, results87, go_sem, World.cell?_setCell_same, x0, x1', x2, x3, x4]) rfl ⟨⟨⟨n0, n2, x1, bA [b3], av, kv, cv⟩, by rw [HP.out], fun _ => ?_⟩, ?_⟩
              · have h0 := HO.out
                exact ⟨h0.1, h0.2.1, h0.2.2.1, h0.2.2.2.1, owns_base (ownsRow_setCell_below (ownsRow_setCell_below (ownsRow_setCell_below (ownsRow_setCell_below (ownsRow_setCell_below h0.2.2.2.2.1 (by exact hlt1) _) (by exact hlt1) _) (by exact hlt1) _) (by exact hlt1) _) (by exact hlt1) _) (by omega), h0.2.2.2.2.2⟩
              · exact ((((hbA.setCell (p := ⟨w.heap.size, 0, none⟩) (by simp) _).setCell (p := ⟨w.heap.size, 1, none⟩) (by simp) _).setCell (p := ⟨w.heap.size, 2, none⟩) (by simp) _).setCell (p := ⟨w.heap.size, 3, none⟩) (by simp) _).setCell (p := ⟨w.heap.size, 4, none⟩) (by simp) _
end Go.Proofs.Tryz
