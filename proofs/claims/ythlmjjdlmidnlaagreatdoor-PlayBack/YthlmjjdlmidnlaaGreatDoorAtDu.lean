/- The reference's words of a play: by the kit's walk. Split, on both sides: the reference's by the kit's walk, strings.Split by the shelf. A move's word read by the reference: by the kit's walk. -/
import Derived.Test.YthlmjjdlmidnlaaGreatDoorAtCu
namespace Go.Proofs.Tryz
open Go Go.Am Go.RowKit Go.Dr
set_option maxRecDepth 100000

theorem hasB97' : f97.body.isSome = true := by kernel_rfl
theorem fn97' : cx.fn 97 = some f97 := by kernel_rfl
theorem has97_w (l : List UInt8) (hl : l ∈ hasS) (b : UInt8) (w : World) (h : Laid w) : Calls prog 97 #[.string (bA l), .int .u8 (b.toNat : Int)] w fun e w' => e = .returned (.bool (l.contains b)) ∧ Below w.heap.size w w' := by
  obtain ⟨c, hc⟩ := Option.isSome_iff_exists.1 hasB97'
  refine (CallRet.calls fn97' hc (has_ret h l hl)).mono ?_
  rintro e w' ⟨v, rfl, rfl, hk⟩
  refine ⟨?_, belowOf hk⟩
  congr 2
  rw [Bool.eq_iff_iff, decide_eq_true_eq, List.contains_iff_mem]
  have e : (b.toNat : Int) ∈ l.map (fun b => (b.toNat : Int)) ↔ b ∈ l := by
    rw [List.mem_map]
    constructor
    · rintro ⟨c, hc, e⟩
      have : c = b := UInt8.toNat_inj.1 (by omega)
      rw [← this]; exact hc
    · exact fun h => ⟨b, h, rfl⟩
  show (if (b.toNat : Int) ∈ l.map (fun b => (b.toNat : Int)) then (1 : Int) else 0) ≠ 0 ↔ _
  by_cases q : (b.toNat : Int) ∈ l.map (fun b => (b.toNat : Int))
  · rw [if_pos q]
    exact ⟨fun _ => e.1 q, fun _ => by decide⟩
  · rw [if_neg q]
    exact ⟨fun h => absurd rfl h, fun h => absurd (e.2 h) q⟩

/-- A word of pitches. -/
def arP (l : List UInt8) : Bool := l == [45] || (!l.isEmpty && l.all pitB)
theorem arePitches_w (l : List UInt8) (hl : l.length ≤ 100000) (w : World) (h : Laid w) : Calls prog 88 #[.string (bA l)] w fun e w' => e = .returned (.bool (arP l)) ∧ Below w.heap.size w w' := by
  by_cases h1 : l = [45]
  · subst h1
    have e : bA [45] = ({ data := #[45] } : ByteArray) := rfl
    have e2 : arP [45] = true := rfl
    rw [e, e2]
    clear e e2
    go_enter func88, ntmps88
    go_wp2
    go_ret
    exact ⟨rfl, Below.refl _ _⟩
  · have hs : (bA l).size = l.length := bA_size l
    have q1 : ((bA l).toList == [45]) = false := by rw [bA_list, beq_eq_false_iff_ne]; exact h1
    have q2 : (bA l).toList ≠ [45] := by rw [bA_list]; exact h1
    have HA : Hid (arP l = (!l.isEmpty && l.all pitB)) := Lib.hid (by unfold arP; rw [show (l == [45]) = false from by rw [beq_eq_false_iff_ne]; exact h1, Bool.false_or])
    clear h1
    go_enter func88, ntmps88
    go_wp2_with fail
    go_loopw [3] (fun s wr => ∃ i : Nat, i ≤ l.length ∧ s = .int .i64 i ∧ (l.take i).all pitB = true ∧ Below w.heap.size w wr) (fun s _ => l.length - (numOf' s).toNat)
    case atStart => exact ⟨0, Nat.zero_le _, rfl, rfl, Below.refl _ _⟩
    case round =>
      obtain ⟨i, hi, rfl, hall, hb⟩ := hrel
      by_cases hin : i < l.length
      · have ix := run_idx l i hin
        have cH := has97_w [66, 67, 83, 70, 88, 72] (by decide) (by' l i) wr (h.below hb)
        obtain ⟨q, hq⟩ : ∃ q, pitB (by' l i) = q := ⟨_, rfl⟩
        have cH : Calls prog 97 #[.string { data := #[66, 67, 83, 70, 88, 72] }, .int .u8 ((by' l i).toNat : Int)] wr fun e w' => e = .returned (.bool q) ∧ Below wr.heap.size wr w' := by rw [← hq]; exact cH
        have hl1 : (l.take (i + 1)).all pitB = q := by
          rw [List.take_add_one, List.all_append, hall, ← hq, List.getElem?_eq_getElem hin]
          unfold by'
          rw [List.getElem?_eq_getElem hin]
          simp
        have HL := Lib.hid hl1
        clear hl1 hall
        generalize by' l i = b at ix cH hq
        clear hq
        go_wp2_with fail
        go_at_call 97
        refine cH.mono ?_
        rintro e w2 ⟨rfl, hk2⟩
        have hb2 := hb.trans (hk2.mono hb.size)
        clear cH ix
        cases q with
        | false =>
          have e : arP l = false := by
            rw [HA.out, Bool.and_eq_false_iff]
            right
            rw [← Bool.not_eq_true, List.all_eq_true]
            intro q
            have := HL.out
            rw [← Bool.not_eq_true, List.all_eq_true] at this
            exact this fun x hx => q x (List.mem_of_mem_take hx)
          have He := Lib.hid e
          clear HA HL e
          go_wp2
          go_ret
          exact ⟨by rw [He.out]; rfl, hb2⟩
        | true =>
          go_wp2
          go_roundw
          case rel => exact ⟨i + 1, by omega, by go_num, HL.out, hb2⟩
          case measure => simp [numOf'] <;> omega
      · obtain rfl : i = l.length := by omega
        rw [List.take_length] at hall
        have He : Hid (arP l = !l.isEmpty) := Lib.hid (by rw [HA.out, hall, Bool.and_true])
        clear HA hall
        by_cases h0 : l = []
        · subst h0
          have e : bA [] = ({ data := #[] } : ByteArray) := rfl
          rw [e]
          clear q1 q2 e
          go_wp2
          go_ret
          exact ⟨by rw [He.out]; rfl, hb⟩
        · have r1 : ((bA l).toList == []) = false := by rw [bA_list, beq_eq_false_iff_ne]; exact h0
          have r2 : (bA l).toList ≠ [] := by rw [bA_list]; exact h0
          have r3 : Hid ((!l.isEmpty) = true) := Lib.hid (by cases l <;> simp at h0 ⊢)
          clear q1 q2
          go_wp2
          go_ret
          exact ⟨by rw [He.out, r3.out]; rfl, hb⟩

/-- The event's word. -/
def isEv (l : List UInt8) : Bool := l.isEmpty || (l.length == 1 && l.all evB)
theorem isEvent_w (l : List UInt8) (w : World) (h : Laid w) : Calls prog 75 #[.string (bA l)] w fun e w' => e = .returned (.bool (isEv l)) ∧ Below w.heap.size w w' := by
  match l with
  | [] =>
    have e : bA [] = ({ data := #[] } : ByteArray) := rfl
    have e2 : isEv [] = true := rfl
    rw [e, e2]
    clear e e2
    go_enter func75, ntmps75
    go_wp2
    go_ret
    exact ⟨rfl, Below.refl _ _⟩
  | [b] =>
    have r1 : ((bA [b]).toList == []) = false := by rw [bA_list]; rfl
    have r2 : (bA [b]).toList ≠ [] := by rw [bA_list]; simp
    have hs : (bA [b]).size = 1 := rfl
    have ix : ∀ w, (Instr.index 9 (.string (bA [b])) (.int .i64 0)).run prog w = .ok (.int .u8 (b.toNat : Int)) w := run_idx [b] 0 (by simp)
    obtain ⟨q, hq⟩ : ∃ q, isEv [b] = q := ⟨_, rfl⟩
    have hq' : [75, 87, 72, 73, 88, 78, 89].contains b = q := by rw [← hq]; simp [isEv, evB]
    have cH : Calls prog 97 #[.string { data := #[75, 87, 72, 73, 88, 78, 89] }, .int .u8 (b.toNat : Int)] w fun e w' => e = .returned (.bool q) ∧ Below w.heap.size w w' := by rw [← hq']; exact has97_w [75, 87, 72, 73, 88, 78, 89] (by decide) b w h
    rw [hq]
    clear hq hq'
    generalize bA [b] = s at r1 r2 hs ix ⊢
    go_enter func75, ntmps75
    go_wp2_with fail
    go_at_call 97
    refine cH.mono ?_
    rintro e w2 ⟨rfl, hk2⟩
    go_wp2
    go_ret
    exact ⟨rfl, hk2⟩
  | b :: b' :: r =>
    have r1 : ((bA (b :: b' :: r)).toList == []) = false := by rw [bA_list]; rfl
    have r2 : (bA (b :: b' :: r)).toList ≠ [] := by rw [bA_list]; simp
    have hs : (bA (b :: b' :: r)).size = r.length + 2 := by rw [bA_size]; rfl
    have r3 : (((r.length + 2 : Nat) : Int) == 1) = false := by rw [beq_eq_false_iff_ne]; omega
    have e2 : isEv (b :: b' :: r) = false := by unfold isEv; simp
    rw [e2]
    clear e2
    generalize bA (b :: b' :: r) = s at r1 r2 hs ⊢
    generalize r.length = k at hs r3
    go_enter func75, ntmps75
    go_wp2
    go_ret
    exact ⟨rfl, Below.refl _ _⟩
end Go.Proofs.Tryz

namespace Go.Proofs.Tryz
open Go Go.Am Go.RowKit Go.Dr
set_option maxRecDepth 100000

theorem bA_sub (l : List UInt8) (a b : Nat) : (bA l).extract a b = bA ((l.drop a).take (b - a)) := by
  apply ByteArray.ext
  simp only [bA, ByteArray.data_extract]
  apply Array.ext'
  rw [Array.toList_extract, List.extract_eq_take_drop]
/-- The parts that are done when the byte i has come. -/
def SplSt (c : UInt8) (l : List UInt8) (i f : Nat) (out : List (List UInt8)) : Prop :=
  (i ≤ l.length ∧ f ≤ i ∧ spl c l = out ++ spl c (l.drop f) ∧ c ∉ (l.drop f).take (i - f)) ∨ (i = l.length + 1 ∧ spl c l = out)
theorem SplSt.start (c : UInt8) (l : List UInt8) : SplSt c l 0 0 [] := .inl ⟨Nat.zero_le _, Nat.le_refl _, rfl, by simp⟩
theorem drop_at {l : List UInt8} {i : Nat} (h : i < l.length) : l.drop i = by' l i :: l.drop (i + 1) := by
  unfold by'
  rw [List.getElem?_eq_getElem h]
  exact List.drop_eq_getElem_cons h
theorem take_step {l : List UInt8} {i f : Nat} (hf : f ≤ i) (h : i < l.length) : (l.drop f).take (i + 1 - f) = (l.drop f).take (i - f) ++ [by' l i] := by
  rw [show i + 1 - f = (i - f) + 1 by omega, List.take_add_one, List.getElem?_drop, show f + (i - f) = i by omega]
  unfold by'
  rw [List.getElem?_eq_getElem h]
  rfl
theorem drop_split {l : List UInt8} {i f : Nat} (hf : f ≤ i) : l.drop f = (l.drop f).take (i - f) ++ l.drop i := by
  have := (List.take_append_drop (i - f) (l.drop f)).symm
  rw [List.drop_drop, show f + (i - f) = i by omega] at this
  exact this
theorem SplSt.go {c : UInt8} {l : List UInt8} {i f : Nat} {out : List (List UInt8)} (h : SplSt c l i f out) (hi : i < l.length) (hc : by' l i ≠ c) : SplSt c l (i + 1) f out := by
  rcases h with ⟨h1, h2, h3, h4⟩ | ⟨h1, -⟩
  · refine .inl ⟨hi, by omega, h3, ?_⟩
    rw [take_step h2 hi, List.mem_append]
    rintro (q | q)
    · exact h4 q
    · exact hc (List.mem_singleton.1 q).symm
  · omega
theorem SplSt.cut {c : UInt8} {l : List UInt8} {i f : Nat} {out : List (List UInt8)} (h : SplSt c l i f out) (hi : i < l.length) (hc : by' l i = c) : SplSt c l (i + 1) (i + 1) (out ++ [(l.drop f).take (i - f)]) := by
  rcases h with ⟨h1, h2, h3, h4⟩ | ⟨h1, -⟩
  · refine .inl ⟨hi, Nat.le_refl _, ?_, by simp⟩
    have e := drop_split (l := l) h2
    rw [drop_at hi, hc] at e
    rw [h3, e, spl_break h4, ← e]
    simp
  · omega
theorem SplSt.fin {c : UInt8} {l : List UInt8} {f : Nat} {out : List (List UInt8)} (h : SplSt c l l.length f out) : SplSt c l (l.length + 1) (l.length + 1) (out ++ [(l.drop f).take (l.length - f)]) := by
  rcases h with ⟨h1, h2, h3, h4⟩ | ⟨h1, -⟩
  · refine .inr ⟨rfl, ?_⟩
    have e : (l.drop f).take (l.length - f) = l.drop f := List.take_of_length_le (by rw [List.length_drop]; exact Nat.le_refl _)
    rw [e] at h4 ⊢
    rw [h3, spl_none h4]
  · omega
theorem SplSt.done {c : UInt8} {l : List UInt8} {i f : Nat} {out : List (List UInt8)} (h : SplSt c l i f out) (hi : ¬ i ≤ l.length) : out = spl c l := by
  rcases h with ⟨h1, -⟩ | ⟨-, h⟩
  · omega
  · exact h.symm
theorem SplSt.le {c : UInt8} {l : List UInt8} {i f : Nat} {out : List (List UInt8)} (h : SplSt c l i f out) : out.length ≤ l.length + 1 ∧ (i ≤ l.length → f ≤ i) := by
  rcases h with ⟨h1, h2, h3, h4⟩ | ⟨h1, h2⟩
  · have := congrArg List.length h3
    rw [spl_length, List.length_append] at this
    have := List.count_le_length (a := c) (l := l)
    exact ⟨by omega, fun _ => h2⟩
  · have := congrArg List.length h2
    rw [spl_length] at this
    have := List.count_le_length (a := c) (l := l)
    exact ⟨by omega, fun _ => by omega⟩

set_option maxHeartbeats 1600000 in
theorem splitR_w (l : List UInt8) (c : UInt8) (hl : l.length ≤ 1000000) (w : World) :
    Calls prog 57 #[.string (bA l), .int .u8 (c.toNat : Int)] w fun e w' => ∃ v, e = .returned v ∧ w'.ownsRow w.heap.size 9 1 v (spl c l).length ((spl c l).map strV) ∧ Below w.heap.size w w' := by
  have hs : (bA l).size = l.length := bA_size l
  obtain ⟨i9, hi9, hz90, hz91, hz92⟩ := info_more info9
  have zz : ((.string ⟨#[]⟩ : Value)).cells.size = 1 := rfl
  have hrow := World.ownsRow_nil w w.heap.size 9 1
  go_enter func57, ntmps57
  go_wp2_with fail
  go_loopw [5, 6, 7] (fun s5 s6 s7 wr => ∃ (i f : Nat) (out : List (List UInt8)), i ≤ l.length + 1 ∧ s7 = .int .i64 i ∧ s6 = .int .i64 f ∧ SplSt c l i f out ∧ wr.ownsRow w.heap.size 9 1 s5 out.length (out.map strV) ∧ Below w.heap.size w wr) (fun _ _ s7 _ => l.length + 2 - (numOf' s7).toNat)
  case atStart => exact ⟨0, 0, [], Nat.zero_le _, rfl, rfl, SplSt.start c l, hrow, Below.refl _ _⟩
  case round =>
    clear hrow
    obtain ⟨i, f, out, hi, rfl, rfl, hst, hrow, hb⟩ := hrel
    obtain ⟨hol, hfi⟩ := hst.le
    by_cases hin : i ≤ l.length
    · have hfi := hfi hin
      obtain ⟨av, kv, cv, rfl⟩ := owns_slice hrow
      have hx := bA_sub l f i
      obtain ⟨p, hp⟩ : ∃ p, (l.drop f).take (i - f) = p := ⟨_, rfl⟩
      rw [hp] at hx
      obtain ⟨S, hS⟩ : ∃ S, bA p = S := ⟨_, rfl⟩
      rw [hS] at hx
      obtain ⟨xs, hxs⟩ : ∃ xs, out.map strV = xs := ⟨_, rfl⟩
      obtain ⟨k, hk⟩ : ∃ k, out.length = k := ⟨_, rfl⟩
      have HS : Hid ((out ++ [p]).map strV = xs ++ [.string S] ∧ (out ++ [p]).length = k + 1) := Lib.hid (by
        rw [List.map_append, hxs, ← hS, List.length_append, hk]; exact ⟨rfl, rfl⟩)
      rw [hxs, hk] at hrow
      rw [hk] at hol
      have fin : ∀ (f' : Nat) (v' : Value) (w3 : World), SplSt c l (i + 1) f' (out ++ [p]) → w3.ownsRow w.heap.size 9 1 v' (k + 1) (xs ++ [.string S]) → w3.ownsRow w.heap.size 9 1 v' (out ++ [p]).length ((out ++ [p]).map strV) := fun f' v' w3 _ ho => by rw [HS.out.1, HS.out.2]; exact ho
      by_cases hlt : i < l.length
      · have ix := run_idx l i hlt
        by_cases hc : by' l i = c
        · have hst' := hst.cut hlt hc
          rw [hp] at hst'
          rw [hc] at ix
          have HT := Lib.hid hst'
          clear hst hst' hxs hk hp hS hc
          go_wp2_with (first
            | (at_builtin; refine wpList_append_own _ rfl _ _ 88 rfl w.heap.size 9 i9 (.string ⟨#[]⟩) 1 16 underlying88 hi9 hz90 hz91 hz92 zz (by decide) _ _ _ rfl (hrow.alloc _) ⟨wr.heap.size, 0, none⟩ 1 1 [.string S] rfl rfl ?c1 ?c2 ?c3 ?c4 ?c5 ?_)
            | go_in)
          case c1 =>
            intro j u hj
            match j, hj with
            | 0, hj => simp at hj; subst hj; simp [Addr.add]
          case c2 => intro u hu; simp at hu; subst hu; rfl
          case c3 => unfold maxLen; omega
          case c4 => omega
          case c5 => have := hb.size; simp; omega
          intro v4 w4 hown4 hgr4 _
          have hb4 : Below w.heap.size w w4 := (hb.alloc hb.size _).grown hgr4 (by have := hb.size; simp; omega) (fun q hq => (hrow.lt q hq).1)
          have ho4 := fin _ _ _ HT.out hown4
          clear hown4 hgr4 hrow HS fin
          go_wp2
          go_roundw
          case rel => exact ⟨i + 1, i + 1, out ++ [p], by omega, by go_num, by go_num, HT.out, ho4, hb4⟩
          case measure => simp [numOf'] <;> omega
        · have hst' := Lib.hid (hst.go hlt hc)
          have hne : ¬ ((by' l i).toNat : Int) = (c.toNat : Int) := fun e => hc (UInt8.toNat_inj.1 (by omega))
          have hne2 : (((by' l i).toNat : Int) == (c.toNat : Int)) = false := by rw [beq_eq_false_iff_ne]; exact hne
          have hro : wr.ownsRow w.heap.size 9 1 (.slice av kv cv) out.length (out.map strV) := by rw [hxs, hk]; exact hrow
          generalize by' l i = b at ix hne hne2
          clear hst hxs hk hp hS hc HS fin hrow hx
          go_wp2_with fail
          go_roundw
          case rel => exact ⟨i + 1, f, out, by omega, by go_num, rfl, hst'.out, hro, hb⟩
          case measure => simp [numOf'] <;> omega
      · obtain rfl : i = l.length := by omega
        have hst' := hst.fin
        rw [hp] at hst'
        have HT := Lib.hid hst'
        clear hst hst' hxs hk hp hS
        go_wp2_with (first
          | (at_builtin; refine wpList_append_own _ rfl _ _ 88 rfl w.heap.size 9 i9 (.string ⟨#[]⟩) 1 16 underlying88 hi9 hz90 hz91 hz92 zz (by decide) _ _ _ rfl (hrow.alloc _) ⟨wr.heap.size, 0, none⟩ 1 1 [.string S] rfl rfl ?c1 ?c2 ?c3 ?c4 ?c5 ?_)
          | go_in)
        case c1 =>
          intro j u hj
          match j, hj with
          | 0, hj => simp at hj; subst hj; simp [Addr.add]
        case c2 => intro u hu; simp at hu; subst hu; rfl
        case c3 => unfold maxLen; omega
        case c4 => omega
        case c5 => have := hb.size; simp; omega
        intro v4 w4 hown4 hgr4 _
        have hb4 : Below w.heap.size w w4 := (hb.alloc hb.size _).grown hgr4 (by have := hb.size; simp; omega) (fun q hq => (hrow.lt q hq).1)
        have ho4 := fin _ _ _ HT.out hown4
        clear hown4 hgr4 hrow HS fin
        go_wp2
        go_roundw
        case rel => exact ⟨l.length + 1, l.length + 1, out ++ [p], by omega, by go_num, by go_num, HT.out, ho4, hb4⟩
        case measure => simp [numOf'] <;> omega
    · have e := hst.done hin
      subst e
      have HR := Lib.hid hrow
      clear hst hrow hol hfi
      go_wp2
      go_ret
      exact ⟨_, rfl, HR.out, hb⟩
end Go.Proofs.Tryz

namespace Go.Proofs.Tryz
open Go Go.Am Go.RowKit Go.Dr
set_option maxRecDepth 100000

/-- What the reference asks ahead of its loop. -/
def pmHeadR (l : List UInt8) : Bool := pmHead l && dig (by' l 0) && dig (by' l 2) && (l.length == 4 || by' l 4 == 58)
theorem pmOk_R (l : List UInt8) : pmOk l = (pmHeadR l && (l.drop 5).all dig) := rfl
theorem u8_iff (b : UInt8) (k : Nat) (hk : k < 256) : (b = UInt8.ofNat k ↔ (b.toNat : Int) = k) := by
  constructor
  · rintro rfl; rw [UInt8.toNat_ofNat']; omega
  · intro e; apply UInt8.toNat_inj.1; rw [UInt8.toNat_ofNat']; omega
theorem dig_iff (b : UInt8) : dig b = true ↔ (48 ≤ (b.toNat : Int) ∧ (b.toNat : Int) ≤ 57) := by
  unfold dig
  rw [decide_eq_true_eq]
  omega
theorem pmHead_R {l : List UInt8} (h : pmHeadR l = false) : pmOk l = false := by rw [pmOk_R, h, Bool.false_and]

set_option maxHeartbeats 6400000 in
theorem parseMoveR_bad (l : List UInt8) (hh : pmHeadR l = false) (hl : l.length ≤ 100000) (w : World) :
    Calls prog 89 #[.string (bA l)] w fun e w' => PmAns w' w.heap.size e l ∧ Below w.heap.size w w' := by
  have hs : (bA l).size = l.length := bA_size l
  have hB : Below w.heap.size w (w.alloc (.cells #[.int .i64 0, .int .i64 0, .bool false, .string ⟨#[]⟩, .slice none 0 0] 27)) := (Below.refl _ _).alloc (Nat.le_refl _) _
  have hx0 := at_new w #[.int .i64 0, .int .i64 0, .bool false, .string ⟨#[]⟩, .slice none 0 0] 27
  have HN := Lib.hid (pmHead_R hh)
  have d0 := dig_iff (by' l 0)
  have d2 := dig_iff (by' l 2)
  have u1 := u8_iff (by' l 1) 45 (by decide)
  have u1' := u8_iff (by' l 1) 120 (by decide)
  have u4 := u8_iff (by' l 4) 58 (by decide)
  have i0 : 4 ≤ l.length → ∀ w, (Instr.index 9 (.string (bA l)) (.int .i64 0)).run prog w = .ok (.int .u8 ((by' l 0).toNat : Int)) w := fun h => run_idx l 0 (by omega)
  have i1 : 4 ≤ l.length → ∀ w, (Instr.index 9 (.string (bA l)) (.int .i64 1)).run prog w = .ok (.int .u8 ((by' l 1).toNat : Int)) w := fun h => run_idx l 1 (by omega)
  have i2 : 4 ≤ l.length → ∀ w, (Instr.index 9 (.string (bA l)) (.int .i64 2)).run prog w = .ok (.int .u8 ((by' l 2).toNat : Int)) w := fun h => run_idx l 2 (by omega)
  have i3 : 4 ≤ l.length → ∀ w, (Instr.index 9 (.string (bA l)) (.int .i64 3)).run prog w = .ok (.int .u8 ((by' l 3).toNat : Int)) w := fun h => run_idx l 3 (by omega)
  have i4 : 5 < l.length → ∀ w, (Instr.index 9 (.string (bA l)) (.int .i64 4)).run prog w = .ok (.int .u8 ((by' l 4).toNat : Int)) w := fun h => run_idx l 4 (by omega)
  unfold pmHeadR pmHead at hh
  rw [← Bool.not_eq_true] at hh
  simp only [Bool.and_eq_true, decide_eq_true_eq, Bool.or_eq_true, beq_iff_eq] at hh
  have e45 : UInt8.ofNat 45 = 45 := rfl
  have e120 : UInt8.ofNat 120 = 120 := rfl
  have e58 : UInt8.ofNat 58 = 58 := rfl
  rw [e45] at u1
  rw [e120] at u1'
  rw [e58] at u4
  rw [d0, d2, u1, u1', u4] at hh
  clear d0 d2 u1 u1' u4 e45 e120 e58
  generalize by' l 0 = b0 at *
  generalize by' l 1 = b1 at *
  generalize by' l 2 = b2 at *
  generalize by' l 3 = b3 at *
  generalize by' l 4 = b4 at *
  obtain ⟨⟨z0, z1, z2, z3, z4⟩, g0, g1, g2, g3, g4⟩ := box5 hx0
  generalize hn : l.length = n at *
  by_cases k0 : n < 4
  · have k0' : (n : Int) < 4 := by omega
    clear hh i0 i1 i2 i3 i4
    go_enter func89, ntmps89
    go_wp2
    refine bodyPost_ret (v := .tuple #[.agg #[.int .i64 0, .int .i64 0, .bool false, .string ⟨#[]⟩, .slice none 0 0], .bool false]) (by simp [results, results89, go_sem, z0, z1, z2, z3, z4]) rfl ⟨pm_no HN.out, ?_⟩
    exact hB
  have i0 := i0 (by omega)
  have i1 := i1 (by omega)
  have i2 := i2 (by omega)
  have i3 := i3 (by omega)
  have k0' : ¬ (n : Int) < 4 := by omega
  have key : ((b0.toNat : Int) < 48) ∨ (¬ (b0.toNat : Int) < 48 ∧ 57 < (b0.toNat : Int)) ∨ ((¬ (b0.toNat : Int) < 48 ∧ ¬ 57 < (b0.toNat : Int)) ∧ (
      (¬ (b1.toNat : Int) = 45 ∧ ¬ (b1.toNat : Int) = 120) ∨ (((b1.toNat : Int) = 45 ∨ (¬ (b1.toNat : Int) = 45 ∧ (b1.toNat : Int) = 120)) ∧ (
        (b2.toNat : Int) < 48 ∨ (¬ (b2.toNat : Int) < 48 ∧ 57 < (b2.toNat : Int)) ∨ ((¬ (b2.toNat : Int) < 48 ∧ ¬ 57 < (b2.toNat : Int)) ∧ (
          (b3.toNat : Int) < 97 ∨ (¬ (b3.toNat : Int) < 97 ∧ 122 < (b3.toNat : Int)) ∨ ((¬ (b3.toNat : Int) < 97 ∧ ¬ 122 < (b3.toNat : Int)) ∧ (
            (n : Int) = 5 ∨ (5 < (n : Int) ∧ ¬ (b4.toNat : Int) = 58))))))))) := by omega
  clear hh k0
  rcases key with k | ⟨k, k'⟩ | ⟨⟨k, k'⟩, ⟨m, m'⟩ | ⟨m | ⟨m, m'⟩, q | ⟨q, q'⟩ | ⟨⟨q, q'⟩, r | ⟨r, r'⟩ | ⟨⟨r, r'⟩, t | ⟨t, t'⟩⟩⟩⟩⟩
  all_goals (
    first | (have i4 := i4 (by omega); have t2 : ((n : Int) == 5) = false := by (rw [beq_eq_false_iff_ne]; omega)) | clear i4
    go_enter func89, ntmps89
    go_wp2
    refine bodyPost_ret (v := .tuple #[.agg #[.int .i64 0, .int .i64 0, .bool false, .string ⟨#[]⟩, .slice none 0 0], .bool false]) (by simp [results, results89, go_sem, z0, z1, z2, z3, z4]) rfl ⟨pm_no HN.out, ?_⟩
    exact hB)
end Go.Proofs.Tryz
