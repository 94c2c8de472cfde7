/- Names: what IsName answers, on both sides: by the kit's walk. -/
import Derived.Test.YtbfonnoebbjenaaGreatDoorAxA
import Derived.Laws.RangeAny
import Derived.LoopN
import Derived.LoopTactic
namespace Go.Proofs.Tryz
open Go Go.Am Go.RowKit
set_option maxRecDepth 100000

def letB (b : UInt8) : Bool := decide (65 ≤ b.toNat ∧ b.toNat ≤ 90) || decide (97 ≤ b.toNat ∧ b.toNat ≤ 122)
def digB (b : UInt8) : Bool := decide (48 ≤ b.toNat ∧ b.toNat ≤ 57)
/-- A byte at the place i of a name. -/
def nmB (i : Nat) (b : UInt8) : Bool := letB b || (decide (i ≠ 0) && (digB b || decide (b.toNat = 95)))
/-- The bytes from the place i on. -/
def nmK : Nat → List UInt8 → Bool
  | _, [] => true
  | i, b :: l => nmB i b && nmK (i + 1) l
def isNm (l : List UInt8) : Bool := decide (l ≠ []) && decide (l.length ≤ 24) && nmK 0 l
theorem nmK_get : ∀ {l : List UInt8} {i : Nat}, nmK i l = true ↔ ∀ j b, l[j]? = some b → nmB (i + j) b = true
  | [], i => by simp [nmK]
  | b :: l, i => by
    rw [nmK, Bool.and_eq_true, nmK_get]
    constructor
    · rintro ⟨h1, h2⟩ j c hj
      cases j with
      | zero => simp at hj; subst hj; simpa using h1
      | succ j => simp at hj; have := h2 j c hj; rwa [show i + (j + 1) = i + 1 + j by omega]
    · intro h
      exact ⟨by simpa using h 0 b rfl, fun j c hj => by have := h (j + 1) c (by simpa using hj); rwa [show i + (j + 1) = i + 1 + j by omega] at this⟩
theorem isNm_iff {l : List UInt8} : isNm l = true ↔ l ≠ [] ∧ l.length ≤ 24 ∧ ∀ j b, l[j]? = some b → nmB j b = true := by
  unfold isNm
  rw [Bool.and_eq_true, Bool.and_eq_true, decide_eq_true_eq, decide_eq_true_eq, nmK_get, and_assoc]
  simp only [Nat.zero_add]
theorem isNm_bad {l : List UInt8} {j : Nat} {b : UInt8} (h : l[j]? = some b) (hb : nmB j b = false) : isNm l = false := by
  rw [← Bool.not_eq_true, isNm_iff]
  rintro ⟨-, -, h3⟩
  rw [h3 j b h] at hb; cases hb

theorem bA_at {l : List UInt8} {i : Nat} {b : UInt8} (h : l[i]? = some b) (hi : i < (bA l).size) : (bA l)[i]'hi = b := by
  have hl := (List.getElem?_eq_some_iff.1 h).1
  have e : (bA l)[i]'hi = l[i] := by
    simp [bA, ByteArray.getElem_eq_getElem_data]
  rw [e]
  exact (List.getElem?_eq_some_iff.1 h).2

/-- The reference's letters and digits. -/
theorem let_w (b : UInt8) (w : World) : Calls prog 157 #[.int .u8 (b.toNat : Int)] w fun e w' => e = .returned (.bool (letB b)) ∧ w' = w := by
  obtain ⟨n, hn⟩ : ∃ n : Nat, b.toNat = n := ⟨_, rfl⟩
  have hl : letB b = (decide (65 ≤ n ∧ n ≤ 90) || decide (97 ≤ n ∧ n ≤ 122)) := by unfold letB; rw [hn]
  rw [hn, hl]
  clear hn hl
  obtain ⟨r, hr⟩ : ∃ r, (decide (65 ≤ n ∧ n ≤ 90) || decide (97 ≤ n ∧ n ≤ 122)) = r := ⟨_, rfl⟩
  rw [hr]
  by_cases h1 : 65 ≤ n
  · by_cases h2 : n ≤ 90
    · obtain rfl : r = true := by rw [← hr, decide_eq_true ⟨h1, h2⟩]; rfl
      have k1 : (65 : Int) ≤ n := by omega
      have k2 : (n : Int) ≤ 90 := by omega
      clear hr h1 h2
      go_enter func157, ntmps157
      go_wp2
      go_ret
      exact ⟨rfl, rfl⟩
    · by_cases h3 : 97 ≤ n
      · by_cases h4 : n ≤ 122
        · obtain rfl : r = true := by rw [← hr, decide_eq_true (p := 97 ≤ n ∧ n ≤ 122) ⟨h3, h4⟩, Bool.or_true]
          have k1 : (65 : Int) ≤ n := by omega
          have k2 : ¬ (n : Int) ≤ 90 := by omega
          have k3 : (97 : Int) ≤ n := by omega
          have k4 : (n : Int) ≤ 122 := by omega
          clear hr h1 h2 h3 h4
          go_enter func157, ntmps157
          go_wp2
          go_ret
          exact ⟨rfl, rfl⟩
        · obtain rfl : r = false := by rw [← hr, decide_eq_false (fun q => h2 q.2), decide_eq_false (fun q => h4 q.2)]; rfl
          have k1 : (65 : Int) ≤ n := by omega
          have k2 : ¬ (n : Int) ≤ 90 := by omega
          have k3 : (97 : Int) ≤ n := by omega
          have k4 : ¬ (n : Int) ≤ 122 := by omega
          clear hr h1 h2 h3 h4
          go_enter func157, ntmps157
          go_wp2
          go_ret
          exact ⟨rfl, rfl⟩
      · obtain rfl : r = false := by rw [← hr, decide_eq_false (fun q => h2 q.2), decide_eq_false (fun q => h3 q.1)]; rfl
        have k1 : (65 : Int) ≤ n := by omega
        have k2 : ¬ (n : Int) ≤ 90 := by omega
        have k3 : ¬ (97 : Int) ≤ n := by omega
        clear hr h1 h2 h3
        go_enter func157, ntmps157
        go_wp2
        go_ret
        exact ⟨rfl, rfl⟩
  · obtain rfl : r = false := by rw [← hr, decide_eq_false (fun q => h1 q.1), decide_eq_false (fun q => h1 (by omega))]; rfl
    have k1 : ¬ (65 : Int) ≤ n := by omega
    have k3 : ¬ (97 : Int) ≤ n := by omega
    clear hr h1
    go_enter func157, ntmps157
    go_wp2
    go_ret
    exact ⟨rfl, rfl⟩
theorem dig_w (b : UInt8) (w : World) : Calls prog 158 #[.int .u8 (b.toNat : Int)] w fun e w' => e = .returned (.bool (digB b)) ∧ w' = w := by
  obtain ⟨n, hn⟩ : ∃ n : Nat, b.toNat = n := ⟨_, rfl⟩
  have hl : digB b = decide (48 ≤ n ∧ n ≤ 57) := by unfold digB; rw [hn]
  rw [hn, hl]
  clear hn hl
  obtain ⟨r, hr⟩ : ∃ r, decide (48 ≤ n ∧ n ≤ 57) = r := ⟨_, rfl⟩
  rw [hr]
  by_cases h1 : 48 ≤ n
  · by_cases h2 : n ≤ 57
    · obtain rfl : r = true := by rw [← hr, decide_eq_true ⟨h1, h2⟩]
      have k1 : (48 : Int) ≤ n := by omega
      have k2 : (n : Int) ≤ 57 := by omega
      clear hr h1 h2
      go_enter func158, ntmps158
      go_wp2
      go_ret
      exact ⟨rfl, rfl⟩
    · obtain rfl : r = false := by rw [← hr, decide_eq_false (fun q => h2 q.2)]
      have k1 : (48 : Int) ≤ n := by omega
      have k2 : ¬ (n : Int) ≤ 57 := by omega
      clear hr h1 h2
      go_enter func158, ntmps158
      go_wp2
      go_ret
      exact ⟨rfl, rfl⟩
  · obtain rfl : r = false := by rw [← hr, decide_eq_false (fun q => h1 q.1)]
    have k1 : ¬ (48 : Int) ≤ n := by omega
    clear hr h1
    go_enter func158, ntmps158
    go_wp2
    go_ret
    exact ⟨rfl, rfl⟩

set_option maxHeartbeats 3200000 in
theorem nameR_w (l : List UInt8) (w : World) : Calls prog 119 #[.string (bA l)] w fun e w' => e = .returned (.bool (isNm l)) ∧ w' = w := by
  have hs : (bA l).size = l.length := bA_size l
  by_cases h0 : l = []
  · subst h0
    have e : isNm [] = false := rfl
    rw [e]
    have eb : bA [] = ({ data := #[] } : ByteArray) := rfl
    rw [eb]
    go_enter func119, ntmps119
    go_wp2
    go_ret
    exact ⟨rfl, rfl⟩
  have hpos : 0 < l.length := List.length_pos_iff.2 h0
  have hp : ((l.length : Int) == 0) = false := by rw [beq_eq_false_iff_ne]; omega
  by_cases h1 : 24 < l.length
  · have e : isNm l = false := by rw [← Bool.not_eq_true, isNm_iff]; rintro ⟨-, h, -⟩; omega
    rw [e]
    have hp2 : (24 : Int) < (l.length : Int) := by omega
    clear e
    go_enter func119, ntmps119
    go_wp2
    go_ret
    exact ⟨rfl, rfl⟩
  have hp2 : ¬ (24 : Int) < (l.length : Int) := by omega
  obtain ⟨b0, hb0⟩ : ∃ b, l[0]? = some b := ⟨_, List.getElem?_eq_getElem hpos⟩
  have h00 : 0 < (bA l).size := by omega
  have ix0 : (bA l)[0]'h00 = b0 := bA_at hb0 h00
  have cL := let_w b0
  cases hq : letB b0 with
  | false =>
    have e : isNm l = false := isNm_bad hb0 (by unfold nmB; rw [hq]; rfl)
    rw [e]
    rw [hq] at cL
    clear e hq hb0 h1
    go_enter func119, ntmps119
    go_wp2_with fail
    go_at_call 157
    refine (cL _).mono ?_
    rintro e w1 ⟨rfl, rfl⟩
    go_wp2
    go_ret
    exact ⟨rfl, rfl⟩
  | true =>
    rw [hq] at cL
    have HB : Hid (isNm l = true ↔ ∀ j b, l[j]? = some b → nmB j b = true) := Lib.hid (by rw [isNm_iff]; exact ⟨fun h => h.2.2, fun h => ⟨h0, by omega, h⟩⟩)
    have HN : Hid (∀ j b, l[j]? = some b → nmB j b = false → isNm l = false) := Lib.hid fun j b h hb => isNm_bad h hb
    have H0 := Lib.hid (show ∀ b, l[0]? = some b → letB b = true from fun b hb => by rw [hb0] at hb; cases hb; exact hq)
    have hn0 : Hid (∀ j b, j < 0 → l[j]? = some b → nmB j b = true) := Lib.hid fun j b hj => absurd hj (Nat.not_lt_zero _)
    clear hq hb0 h1 h0
    go_enter func119, ntmps119
    go_wp2_with fail
    go_at_call 157
    refine (cL _).mono ?_
    rintro e w1 ⟨rfl, rfl⟩
    clear cL ix0
    go_wp2_with fail
    go_loopw [3] (fun s wr => ∃ i : Nat, i ≤ l.length ∧ s = .int .i64 i ∧ Hid (∀ j b, j < i → l[j]? = some b → nmB j b = true) ∧ wr = w1) (fun s _ => l.length - (numOf' s).toNat)
    case atStart => exact ⟨0, Nat.zero_le _, rfl, hn0, rfl⟩
    case round =>
      clear hn0
      obtain ⟨i, hi, rfl, hE, rfl⟩ := hrel
      by_cases hin : i < l.length
      · obtain ⟨b, hb⟩ : ∃ b, l[i]? = some b := ⟨_, List.getElem?_eq_getElem hin⟩
        have h0i : i < (bA l).size := by omega
        have ixi : (bA l)[i]'h0i = b := bA_at hb h0i
        have cL := let_w b
        have cD := dig_w b
        have hii : (i : Int) < (l.length : Int) := by omega
        cases hq : nmB i b with
        | true =>
          have hE2 : Hid (∀ j b, j < i + 1 → l[j]? = some b → nmB j b = true) := Lib.hid fun j c hj hc => by
            rcases Nat.lt_succ_iff_lt_or_eq.1 hj with q | rfl
            · exact hE.out j c q hc
            · rw [hb] at hc; cases hc; exact hq
          have hq2 : letB b = true ∨ (letB b = false ∧ digB b = true) ∨ (letB b = false ∧ digB b = false ∧ b.toNat = 95) := by
            unfold nmB at hq
            cases h : letB b with
            | true => exact .inl rfl
            | false =>
              right
              rw [h] at hq
              simp only [Bool.false_or, Bool.and_eq_true, Bool.or_eq_true, decide_eq_true_eq] at hq
              cases h2 : digB b with
              | true => exact .inl ⟨rfl, rfl⟩
              | false => right; rw [h2] at hq; exact ⟨rfl, rfl, by simpa using hq.2⟩
          clear hE hq hb
          rcases hq2 with hq | ⟨hq, hd⟩ | ⟨hq, hd, h95⟩
          · rw [hq] at cL
            clear cD hq
            go_wp2_with fail
            go_at_call 157
            refine (cL _).mono ?_
            rintro e w2 ⟨rfl, rfl⟩
            clear cL
            go_wp2_with fail
            go_roundw
            case rel => exact ⟨i + 1, by omega, by go_num, hE2, by first | trivial | rfl⟩
            case measure => simp [numOf'] <;> omega
          · rw [hq] at cL
            rw [hd] at cD
            clear hq hd
            go_wp2_with fail
            go_at_call 157
            refine (cL _).mono ?_
            rintro e w2 ⟨rfl, rfl⟩
            go_wp2_with fail
            go_at_call 158
            refine (cD _).mono ?_
            rintro e w3 ⟨rfl, rfl⟩
            clear cL cD
            go_wp2_with fail
            go_roundw
            case rel => exact ⟨i + 1, by omega, by go_num, hE2, by first | trivial | rfl⟩
            case measure => simp [numOf'] <;> omega
          · rw [hq] at cL
            rw [hd] at cD
            rw [h95] at cL cD
            have h95' : (bA l)[i].toNat = 95 := by rw [ixi, h95]
            clear ixi
            clear hq hd
            go_wp2_with fail
            go_at_call 157
            refine (cL _).mono ?_
            rintro e w2 ⟨rfl, rfl⟩
            go_wp2_with fail
            go_at_call 158
            refine (cD _).mono ?_
            rintro e w3 ⟨rfl, rfl⟩
            clear cL cD
            go_wp2_with fail
            go_roundw
            case rel => exact ⟨i + 1, by omega, by go_num, hE2, by first | trivial | rfl⟩
            case measure => simp [numOf'] <;> omega
        | false =>
          have HE := Lib.hid (HN.out i b hb hq)
          have hq2 : letB b = false ∧ digB b = false ∧ ¬ b.toNat = 95 := by
            have hl : letB b = false := by unfold nmB at hq; cases h : letB b with
              | true => rw [h] at hq; simp at hq
              | false => rfl
            have hi0 : i ≠ 0 := fun h => by subst h; have := H0.out b hb; rw [hl] at this; cases this
            unfold nmB at hq
            rw [hl] at hq
            simp [hi0] at hq
            exact ⟨hl, hq.1, hq.2⟩
          obtain ⟨hl, hd, h95⟩ := hq2
          rw [hl] at cL
          rw [hd] at cD
          have h95' : ((b.toNat : Int) != 95) = true := by rw [bne_iff_ne]; omega
          clear hE hb hq hl hd HN HB H0 h95
          go_wp2_with fail
          go_at_call 157
          refine (cL _).mono ?_
          rintro e w2 ⟨rfl, rfl⟩
          go_wp2_with fail
          go_at_call 158
          refine (cD _).mono ?_
          rintro e w3 ⟨rfl, rfl⟩
          clear cL cD
          go_wp2_with fail
          go_ret
          exact ⟨by rw [HE.out]; try rfl, rfl⟩
      · obtain rfl : i = l.length := by omega
        have HE : Hid (isNm l = true) := Lib.hid (HB.out.2 fun j b hb => hE.out j b (List.getElem?_eq_some_iff.1 hb).1 hb)
        clear hE HB HN H0
        go_wp2_with fail
        go_ret
        exact ⟨by rw [HE.out]; try rfl, rfl⟩
/-- The program's name, rune by rune. -/
theorem rune_cases {b : UInt8} {i : Nat} : (nmB i b = true ∧ b.toNat < 128 ∧ ((65 ≤ b.toNat ∧ b.toNat ≤ 90) ∨ (97 ≤ b.toNat ∧ b.toNat ≤ 122) ∨ (i ≠ 0 ∧ ((48 ≤ b.toNat ∧ b.toNat ≤ 57) ∨ b.toNat = 95)))) ∨ nmB i b = false := by
  cases h : nmB i b with
  | false => exact .inr rfl
  | true =>
    left
    unfold nmB letB digB at h
    simp only [Bool.or_eq_true, Bool.and_eq_true, decide_eq_true_eq] at h
    refine ⟨rfl, ?_⟩
    omega
set_option maxHeartbeats 3200000 in
theorem name_w (l : List UInt8) (w : World) : Calls prog 156 #[.string (bA l)] w fun e w' => e = .returned (.bool (isNm l)) ∧ Below w.heap.size w w' := by
  have hs : (bA l).size = l.length := bA_size l
  have hit : ∀ p, Below w.heap.size w (w.iter (bA l) p) := fun p => (Below.refl _ w).alloc (Nat.le_refl _) _
  by_cases h0 : l = []
  · subst h0
    have e : isNm [] = false := rfl
    rw [e]
    have eb : bA [] = ({ data := #[] } : ByteArray) := rfl
    rw [eb]
    go_enter func156, ntmps156
    go_wp2
    go_ret
    exact ⟨rfl, Below.refl _ _⟩
  have hpos : 0 < l.length := List.length_pos_iff.2 h0
  have hp : ((l.length : Int) == 0) = false := by rw [beq_eq_false_iff_ne]; omega
  by_cases h1 : 24 < l.length
  · have e : isNm l = false := by rw [← Bool.not_eq_true, isNm_iff]; rintro ⟨-, h, -⟩; omega
    rw [e]
    have hp2 : (24 : Int) < (l.length : Int) := by omega
    clear e
    go_enter func156, ntmps156
    go_wp2
    go_ret
    exact ⟨rfl, Below.refl _ _⟩
  have hp2 : ¬ (24 : Int) < (l.length : Int) := by omega
  have HB : Hid (isNm l = true ↔ ∀ j b, l[j]? = some b → nmB j b = true) := Lib.hid (by rw [isNm_iff]; exact ⟨fun h => h.2.2, fun h => ⟨h0, by omega, h⟩⟩)
  have HN : Hid (∀ j b, l[j]? = some b → nmB j b = false → isNm l = false) := Lib.hid fun j b h hb => isNm_bad h hb
  have hn0 : Hid (∀ j b, j < 0 → l[j]? = some b → nmB j b = true) := Lib.hid fun j b hj => absurd hj (Nat.not_lt_zero _)
  have hr := run_range_string (P := prog) w 9 (bA l) underlying9
  have HIT := Lib.hid hit
  clear h1 h0 hit
  go_enter func156, ntmps156
  go_wp2_with fail
  clear hr
  go_loopw [] (fun wr => ∃ p : Nat, p ≤ l.length ∧ wr = w.iter (bA l) p ∧ Hid (∀ j b, j < p → l[j]? = some b → nmB j b = true)) (fun wr => l.length - wr.iterPos w.heap.size)
  case atStart => exact ⟨0, Nat.zero_le _, rfl, hn0⟩
  case round =>
    clear hn0
    obtain ⟨p, hp1, rfl, hE⟩ := hrel
    by_cases hin : p < l.length
    · obtain ⟨b, hb⟩ : ∃ b, l[p]? = some b := ⟨_, List.getElem?_eq_getElem hin⟩
      have hsz : p < (bA l).size := by omega
      have hat : (bA l)[p]'hsz = b := bA_at hb hsz
      rcases rune_cases (b := b) (i := p) with ⟨hq, h128, hcase⟩ | hq
      · have hnx := run_next_ascii (P := prog) w (bA l) p 0 hsz (by rw [hat]; exact h128)
        rw [hat] at hnx
        have hE2 : Hid (∀ j b, j < p + 1 → l[j]? = some b → nmB j b = true) := Lib.hid fun j c hj hc => by
          rcases Nat.lt_succ_iff_lt_or_eq.1 hj with q | rfl
          · exact hE.out j c q hc
          · rw [hb] at hc; cases hc; exact hq
        obtain ⟨n, hn⟩ : ∃ n : Nat, b.toNat = n := ⟨_, rfl⟩
        rw [hn] at hnx hcase
        clear hE hq hb hat hsz h128 HB HN hn
        rcases hcase with ⟨c1, c2⟩ | ⟨c1, c2⟩ | ⟨hp0, ⟨c1, c2⟩ | c1⟩
        · have k1 : (65 : Int) ≤ (n : Int) := by omega
          have k2 : (n : Int) ≤ 90 := by omega
          clear c1 c2
          go_wp2_with fail
          go_roundw
          case rel => exact ⟨p + 1, by omega, rfl, hE2⟩
          case measure => rw [World.iterPos_iter, World.iterPos_iter]; omega
        · have k1 : (65 : Int) ≤ (n : Int) := by omega
          have k2 : ¬ (n : Int) ≤ 90 := by omega
          have k3 : (97 : Int) ≤ (n : Int) := by omega
          have k4 : (n : Int) ≤ 122 := by omega
          clear c1 c2
          go_wp2_with fail
          go_roundw
          case rel => exact ⟨p + 1, by omega, rfl, hE2⟩
          case measure => rw [World.iterPos_iter, World.iterPos_iter]; omega
        · have k1 : ¬ (65 : Int) ≤ (n : Int) := by omega
          have k3 : ¬ (97 : Int) ≤ (n : Int) := by omega
          have k4 : ((n : Int) != 95) = true := by rw [bne_iff_ne]; omega
          have k5 : ¬ (n : Int) < 48 := by omega
          have k6 : ¬ (57 : Int) < (n : Int) := by omega
          have k7 : ((p : Int) == 0) = false := by rw [beq_eq_false_iff_ne]; omega
          clear c1 c2 hp0
          go_wp2_with fail
          go_roundw
          case rel => exact ⟨p + 1, by omega, rfl, hE2⟩
          case measure => rw [World.iterPos_iter, World.iterPos_iter]; omega
        · subst c1
          have k7 : ((p : Int) == 0) = false := by rw [beq_eq_false_iff_ne]; omega
          clear hp0
          go_wp2_with fail
          go_roundw
          case rel => exact ⟨p + 1, by omega, rfl, hE2⟩
          case measure => rw [World.iterPos_iter, World.iterPos_iter]; omega
      · have HE := Lib.hid (HN.out p b hb hq)
        have hbad : letB b = false ∧ (p = 0 ∨ (digB b = false ∧ ¬ b.toNat = 95)) := by
          unfold nmB at hq
          cases h : letB b with
          | true => rw [h] at hq; simp at hq
          | false =>
            rw [h] at hq
            refine ⟨rfl, ?_⟩
            by_cases q : p = 0
            · exact .inl q
            · right; simp [q] at hq; exact hq
        have hl : ¬ (65 ≤ b.toNat ∧ b.toNat ≤ 90) ∧ ¬ (97 ≤ b.toNat ∧ b.toNat ≤ 122) := by
          have := hbad.1
          unfold letB at this
          simp only [Bool.or_eq_false_iff, decide_eq_false_iff_not] at this
          exact this
        have hd : p = 0 ∨ (¬ (48 ≤ b.toNat ∧ b.toNat ≤ 57) ∧ ¬ b.toNat = 95) := by
          rcases hbad.2 with q | ⟨q, q2⟩
          · exact .inl q
          · right; unfold digB at q; exact ⟨of_decide_eq_false q, q2⟩
        obtain ⟨R, P', hnx, hRl, hRd⟩ : ∃ (R : Int) (P' : Nat), (Instr.next (.pointer (some ⟨w.heap.size, 0, none⟩)) true 0).run prog (w.iter (bA l) p) = .ok (.tuple #[.bool true, .int .i64 p, .int .i32 R]) (w.iter (bA l) P') ∧ (¬ (65 ≤ R ∧ R ≤ 90) ∧ ¬ (97 ≤ R ∧ R ≤ 122)) ∧ (p = 0 ∨ (¬ (48 ≤ R ∧ R ≤ 57) ∧ ¬ R = 95)) := by
          by_cases h128 : b.toNat < 128
          · have hnx := run_next_ascii (P := prog) w (bA l) p 0 hsz (by rw [hat]; exact h128)
            rw [hat] at hnx
            exact ⟨_, _, hnx, by omega, by omega⟩
          · have hnx := run_next_any (P := prog) w (bA l) p 0 hsz
            obtain ⟨d1, -⟩ := decode_high (bA l) p hsz (by rw [hat]; omega)
            exact ⟨_, _, hnx, by omega, by omega⟩
        have HI := Lib.hid (HIT.out P')
        clear hE hb hq hat hsz hbad hl hd HB HN HIT
        by_cases a1 : 65 ≤ R
        · have a2 : ¬ R ≤ 90 := by omega
          by_cases a3 : 97 ≤ R
          · have a4 : ¬ R ≤ 122 := by omega
            rcases hRd with rfl | ⟨d1, d2⟩
            · clear hRl
              go_wp2_with fail
              go_ret
              exact ⟨by rw [HE.out]; try rfl, HI.out⟩
            · have d3 : (57 : Int) < R := by omega
              have d4 : ¬ R < 48 := by omega
              have d5 : (R != 95) = true := by rw [bne_iff_ne]; exact d2
              by_cases hp0 : p = 0
              · subst hp0
                clear hRl d1
                go_wp2_with fail
                go_ret
                exact ⟨by rw [HE.out]; try rfl, HI.out⟩
              · have k7 : ((p : Int) == 0) = false := by rw [beq_eq_false_iff_ne]; omega
                clear hRl d1
                go_wp2_with fail
                go_ret
                exact ⟨by rw [HE.out]; try rfl, HI.out⟩
          · by_cases hp0 : p = 0
            · subst hp0
              clear hRl hRd
              go_wp2_with fail
              go_ret
              exact ⟨by rw [HE.out]; try rfl, HI.out⟩
            · have k7 : ((p : Int) == 0) = false := by rw [beq_eq_false_iff_ne]; omega
              have d5 : (R != 95) = true := by rw [bne_iff_ne]; omega
              have d4 : ¬ R < 48 := by omega
              have d3 : (57 : Int) < R := by omega
              clear hRl hRd
              go_wp2_with fail
              go_ret
              exact ⟨by rw [HE.out]; try rfl, HI.out⟩
        · have a3 : ¬ 97 ≤ R := by omega
          by_cases hp0 : p = 0
          · subst hp0
            clear hRl hRd
            go_wp2_with fail
            go_ret
            exact ⟨by rw [HE.out]; try rfl, HI.out⟩
          · have k7 : ((p : Int) == 0) = false := by rw [beq_eq_false_iff_ne]; omega
            have d5 : (R != 95) = true := by rw [bne_iff_ne]; omega
            by_cases d4 : R < 48
            · clear hRl hRd
              go_wp2_with fail
              go_ret
              exact ⟨by rw [HE.out]; try rfl, HI.out⟩
            · have d3 : (57 : Int) < R := by omega
              clear hRl hRd
              go_wp2_with fail
              go_ret
              exact ⟨by rw [HE.out]; try rfl, HI.out⟩
    · obtain rfl : p = l.length := by omega
      have HE : Hid (isNm l = true) := Lib.hid (HB.out.2 fun j b hb => hE.out j b (List.getElem?_eq_some_iff.1 hb).1 hb)
      have hend := run_next_end (P := prog) w (bA l) l.length 0 (by omega)
      have HI := Lib.hid (HIT.out l.length)
      clear hE HB HN HIT
      go_wp2_with fail
      go_ret
      exact ⟨by rw [HE.out]; try rfl, HI.out⟩
end Go.Proofs.Tryz
