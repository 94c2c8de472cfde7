/- Assists of the program, by the kit's walk. -/
import Derived.Test.YthlmjjdlmidnlaaGreatDoorArVf
import Derived.Test.YthlmjjdlmidnlaaGreatDoorArVc
import Derived.Lib.Hide
namespace Go.Proofs.Tryz
open Go Go.Am Go.RowKit Go.Dr
set_option maxRecDepth 100000

theorem asked_one {pl x : Int} {d : Nat → MvD} {n : Nat} {k k' : Int} {m m' : MvD} (h : Asked pl x d n k m) (h' : Asked pl x d n k' m') : k' = k ∧ m' = m := by
  rcases h with ⟨a0, rfl, rfl⟩ | ⟨a0, rfl, rfl, a3⟩ | ⟨a0, rfl, i, hi, rfl, hx, hno⟩ <;> rcases h' with ⟨b0, rfl, rfl⟩ | ⟨b0, rfl, rfl, b3⟩ | ⟨b0, rfl, j, hj, rfl, hy, hmo⟩
  · exact ⟨rfl, rfl⟩
  · exact absurd b0 a0
  · exact absurd b0 a0
  · exact absurd a0 b0
  · exact ⟨rfl, rfl⟩
  · exact absurd hy (a3 j hj)
  · exact absurd a0 b0
  · exact absurd hx (b3 i hi)
  · have : i = j := by
      rcases Nat.lt_trichotomy i j with h | h | h
      · exact absurd hx (hmo i h)
      · exact h
      · exact absurd hy (hno j h)
    subst this; exact ⟨rfl, rfl⟩
theorem first_or {d : Nat → MvD} {x : Int} : ∀ n : Nat, (∀ j, j < n → (d j).fr ≠ x) ∨ ∃ i, i < n ∧ (d i).fr = x ∧ ∀ j, j < i → (d j).fr ≠ x
  | 0 => .inl fun j hj => absurd hj (Nat.not_lt_zero _)
  | n + 1 => by
    rcases first_or (d := d) (x := x) n with h | ⟨i, hi, hx, hno⟩
    · by_cases hn : (d n).fr = x
      · exact .inr ⟨n, Nat.lt_succ_self n, hn, h⟩
      · refine .inl fun j hj => ?_
        by_cases e : j = n
        · subst e; exact hn
        · exact h j (by omega)
    · exact .inr ⟨i, by omega, hx, hno⟩
theorem asked_some (pl x : Int) (d : Nat → MvD) (n : Nat) : ∃ k m, Asked pl x d n k m := by
  by_cases h : oneV pl x = 0
  · rcases first_or (d := d) (x := x) n with h1 | ⟨i, hi, hx, hno⟩
    · exact ⟨_, _, .inr (.inl ⟨h, rfl, rfl, h1⟩)⟩
    · exact ⟨_, _, .inr (.inr ⟨h, rfl, i, hi, rfl, hx, hno⟩)⟩
  · exact ⟨_, _, .inl ⟨h, rfl, rfl⟩⟩

theorem own_some {w : World} {base n : Nat} {v : Value} {xs : List Value} (h : w.ownsRow base 3 1 v n xs) (hn : n ≠ 0) : ∃ g cap, v = .slice (some ⟨g, 0, none⟩) n cap ∧ base ≤ g ∧ g < w.heap.size := by
  rcases h.2 with ⟨rfl, rfl⟩ | ⟨g, cap, cur, rfl, h1, h2, h3⟩
  · exact absurd h.1.symm (by simp at hn)
  · exact ⟨g, cap, rfl, h1, lt_of_block h2⟩

/-- What Assists answers. -/
def asErr (k : Int) (m : MvD) : Int := if k = 0 then (if m.x = 0 then 15 else 0) else k
def asRes (k : Int) (m : MvD) : List Int := if asErr k m = 0 then asL m.t m.bo m.bn.toNat else []
def AssW (k : Int) (m : MvD) (B : Nat) (e : Ending) (w' : World) : Prop := ∃ v, e = .returned (.tuple #[v, .int .i64 (asErr k m)]) ∧ w'.ownsRow B 3 1 v (asRes k m).length (vsOf (asRes k m))

section
variable {w : World} {pl x : Int} {lx : Bool} {pvv ev : Value} {ad0 : Option Addr} {n c : Nat} {k : Int} {m : MvD}
theorem moveOf_at (hc : Chk w (.agg #[pvv, ev, .bool lx, .slice ad0 n c]) pl) {d : Nat → MvD} (hm : IsMoves w (.slice ad0 n c) d n) (hn : n ≤ 1000000) (hb : ∀ i, i < n → (d i).bn ≤ 1000000) (ha : Asked pl x d n k m) :
    Calls prog 92 #[.agg #[pvv, ev, .bool lx, .slice ad0 n c], .int .i64 x] w fun e w' => (∃ v, e = .returned (.tuple #[v, .int .i64 k]) ∧ OwnMvV w' w.heap.size v m) ∧ Below w.heap.size w w' := by
  refine (moveOf_w hc hm hn hb).mono ?_
  rintro e w' ⟨⟨v, k', m', rfl, hv, ha'⟩, hB⟩
  obtain ⟨rfl, rfl⟩ := asked_one ha ha'
  exact ⟨⟨v, rfl, hv⟩, hB⟩

theorem ass_bad (hc : Chk w (.agg #[pvv, ev, .bool lx, .slice ad0 n c]) pl) {d : Nat → MvD} (hm : IsMoves w (.slice ad0 n c) d n) (hn : n ≤ 1000000) (hb : ∀ i, i < n → (d i).bn ≤ 1000000) (ha : Asked pl x d n k m) (hne : ¬ asErr k m = 0) :
    Calls prog 29 #[.agg #[pvv, ev, .bool lx, .slice ad0 n c], .int .i64 x] w fun e w' => AssW k m w.heap.size e w' ∧ Below w.heap.size w w' := by
  have eR : asRes k m = [] := by unfold asRes; rw [if_neg hne]
  have hB : Below w.heap.size w (w.alloc (.cells #[pvv, ev, .bool lx, .slice ad0 n c] 24)) := (Below.refl _ _).alloc (Nat.le_refl _) _
  have cM := moveOf_at (hc.below hB) (hm.below hB) hn hb ha
  obtain ⟨r, hr⟩ : ∃ r : Int, (if (!decide (m.x ≠ 0)) = true then (15 : Int) else 0) = r := ⟨_, rfl⟩
  have cW : ∀ (W : World), Calls prog 71 #[.bool (!decide (m.x ≠ 0)), .int .i64 15] W fun e w' => e = .returned (.int .i64 r) ∧ w' = W := fun W => by rw [← hr]; exact when_w _ 15 W
  obtain ⟨v, hv⟩ : ∃ v : Int, (if k = 0 then r else k) = v := ⟨_, rfl⟩
  have cF : ∀ (b : Nat) (W : World), W.cell? ⟨b, 0, none⟩ = some (.int .i64 k) → W.cell? ⟨b, 1, none⟩ = some (.int .i64 r) → Calls prog 70 #[.slice (some ⟨b, 0, none⟩) 2 2] W fun e w' => e = .returned (.int .i64 v) ∧ Below W.heap.size W w' := fun b W h0 h1 => by rw [← hv]; exact first_w b k r W h0 h1
  have ev1 : asErr k m = v := by
    rw [← hv, ← hr]
    unfold asErr
    by_cases h0 : k = 0
    · rw [if_pos h0, if_pos h0]
      by_cases h1 : m.x = 0
      · rw [if_pos h1, if_pos (by simp [h1])]
      · rw [if_neg h1, if_neg (by simp [h1])]
    · rw [if_neg h0, if_neg h0]
  have hne' : ¬ v = 0 := by rw [← ev1]; exact hne
  have Hev : Hid (asErr k m = v) := Lib.hid ev1
  clear hv hr hc hm hb ha ev1 hne
  go_enter func29, ntmps29
  go_wp2_with (first
    | (go_at_call 92; refine cM.mono ?_; rintro e w2 ⟨⟨v', rfl, hv'⟩, hk2⟩; obtain ⟨f1, f2, xb, s, a5, k5, c5, rfl, hf1, hf2, hxb, hs, ho, h0⟩ := hv'.parts; rw [hxb] at cW; clear hf1 hf2 hxb)
    | (go_at_call 71; refine (cW _).mono ?_; rintro e w3 ⟨rfl, rfl⟩)
    | (go_at_call 70; refine (cF _ _ (by simp) (by simp)).mono ?_; rintro e w4 ⟨rfl, hk4⟩)
    | go_in)
  go_ret2
  refine ⟨⟨.slice none 0 0, by rw [Hev.out]; rfl, by rw [eR]; exact World.ownsRow_nil _ _ _ _⟩, ?_⟩
  have hb2 : Below w.heap.size w w2 := hB.trans (hk2.mono (by simp))
  exact ((hb2.alloc hb2.size _).alloc (by have := hb2.size; simp; omega) _).trans (hk4.mono (by have := hb2.size; simp; omega))

set_option maxHeartbeats 3200000 in
theorem ass_go (hc : Chk w (.agg #[pvv, ev, .bool lx, .slice ad0 n c]) pl) {d : Nat → MvD} (hm : IsMoves w (.slice ad0 n c) d n) (hn : n ≤ 1000000) (hb : ∀ i, i < n → (d i).bn ≤ 1000000) (ha : Asked pl x d n 0 m) (hx : m.x ≠ 0) (h1 : 1 ≤ m.bn) (h9 : m.bn ≤ 9)
    (ht : ∀ j : Nat, (j : Int) < m.bn → 1 ≤ m.t (m.bo + j) ∧ m.t (m.bo + j) ≤ 9) :
    Calls prog 29 #[.agg #[pvv, ev, .bool lx, .slice ad0 n c], .int .i64 x] w fun e w' => AssW 0 m w.heap.size e w' ∧ Below w.heap.size w w' := by
  have eE : asErr 0 m = 0 := by unfold asErr; rw [if_pos rfl, if_neg hx]
  have eR : asRes 0 m = asL m.t m.bo m.bn.toNat := by unfold asRes; rw [if_pos eE]
  have hB : Below w.heap.size w (w.alloc (.cells #[pvv, ev, .bool lx, .slice ad0 n c] 24)) := (Below.refl _ _).alloc (Nat.le_refl _) _
  have cM := moveOf_at (hc.below hB) (hm.below hB) hn hb ha
  have hxb : decide (m.x ≠ 0) = true := by simp [hx]
  have cW : ∀ (W : World), Calls prog 71 #[.bool false, .int .i64 15] W fun e w' => e = .returned (.int .i64 0) ∧ w' = W := fun W => when_w _ 15 W
  have cF : ∀ (b : Nat) (W : World), W.cell? ⟨b, 0, none⟩ = some (.int .i64 0) → W.cell? ⟨b, 1, none⟩ = some (.int .i64 0) → Calls prog 70 #[.slice (some ⟨b, 0, none⟩) 2 2] W fun e w' => e = .returned (.int .i64 0) ∧ Below W.heap.size W w' := fun b W h0 h1 => first_w b 0 0 W h0 h1
  have hmm := @run_makeMap prog
  have Hev : Hid (asErr 0 m = 0 ∧ asRes 0 m = asL m.t m.bo m.bn.toNat) := Lib.hid ⟨eE, eR⟩
  clear hc hm hb ha eE eR hx
  go_enter func29, ntmps29
  go_wp2_with (first
    | (go_at_call 92; refine cM.mono ?_; rintro e w2 ⟨⟨v', rfl, hv'⟩, hk2⟩; obtain ⟨f1, f2, xb, s, a5, k5, c5, rfl, hf1, hf2, hxb', hs, ho, h0⟩ := hv'.parts; rw [hxb] at hxb'; subst hxb'; clear hf1 hf2 hxb)
    | (go_at_call 71; refine (cW _).mono ?_; rintro e w3 ⟨rfl, rfl⟩)
    | (go_at_call 70; refine (cF _ _ (by simp) (by simp)).mono ?_; rintro e w4 ⟨rfl, hk4⟩; have hx4 := ((at_new _ _ _).alloc _).below hk4 ((at_new _ _ _).alloc _).lt; have l4 := hx4.lt; obtain ⟨⟨x0, x1, x2, x3, x4⟩, z0, z1, z2, z3, z4⟩ := box5 hx4)
    | go_in)
  obtain ⟨M, hM⟩ : ∃ M : Nat, m.bn.toNat = M := ⟨_, rfl⟩
  have hbnM : m.bn = M := by omega
  rw [hM] at ho Hev
  have hM1 : 1 ≤ M := by omega
  have hM9 : M ≤ 9 := by omega
  obtain ⟨g, cap, eg, hg0, hg1⟩ := own_some ho (by omega)
  simp only [Value.slice.injEq] at eg
  obtain ⟨rfl, rfl, rfl⟩ := eg
  have ht' : ∀ j : Nat, j < k5 → 1 ≤ m.t (m.bo + j) ∧ m.t (m.bo + j) ≤ 9 := fun j hj => ht j (by omega)
  clear ht
  have hb2 : Below w.heap.size w w2 := hB.trans (hk2.mono (by simp))
  have hbA : Below w2.heap.size w2 w4 := (((Below.refl _ _).alloc (Nat.le_refl _) _).alloc (by simp) _).trans (hk4.mono (by simp; omega))
  have hb4 : Below w.heap.size w w4 := hb2.trans (hbA.mono hb2.size)
  have ho4 := (owns_below ho hbA).alloc (.map #[] 0)
  have hg4 : g < w4.heap.size := by omega
  have hown0 : (w4.alloc (.map #[] 0)).ownsMap prog 3 (plainElem (H := Unit) prog 4) w4.heap.size 0 (mapK m.t m.bo 0) := World.ownsMap_made _ _ _ _
  clear ho hk2 hk4 hbA x0 x1 x2 x3 x4 z0 z1 z2 z3 z4 cM cW cF hM hbnM h1 h9 h0 hs hg1
  go_loopw [10, 31] (fun _ z wr => ∃ j : Nat, j ≤ k5 ∧ z = .int .i64 j ∧ wr.ownsMap prog 3 (plainElem (H := Unit) prog 4) w4.heap.size j (mapK m.t m.bo j) ∧ wr.ownsRow (w.alloc (.cells #[pvv, ev, .bool lx, .slice ad0 n c] 24)).heap.size 3 1 (.slice (some ⟨g, 0, none⟩) k5 c5) k5 (vsOf (intsL m.t m.bo k5)) ∧
    At wr w2.heap.size #[.int .i64 f1, .int .i64 f2, .bool true, .string s, .slice (some ⟨g, 0, none⟩) k5 c5] 27 ∧ Below w.heap.size w wr) (fun _ z _ => k5 - (numOf' z).toNat)
  case atStart => exact ⟨0, Nat.zero_le _, rfl, hown0, ho4, hx4.alloc _, hb4.alloc hb4.size _⟩
  case round =>
    clear hown0 ho4 hx4 hb4
    obtain ⟨j, hj, rfl, hown, ho, hx4, hbel⟩ := hrel
    by_cases hjk : j < k5
    · have hel : wr.cell? ⟨g, j, none⟩ = some (.int .i64 (m.t (m.bo + (j : Int)))) := by
        rw [ho.cellAt j (by omega), vsOf, List.getElem?_map, intsL_get hjk]; rfl
      have hz := ht' j hjk
      clear ht'
      obtain ⟨z, ez⟩ : ∃ z, m.t (m.bo + (j : Int)) = z := ⟨_, rfl⟩
      rw [ez] at hel hz
      have hwf : (Lit.int .i64 z).wf = true := WalkArith.wf_i64 (by omega)
      go_wp2_with (first
        | (at_mapUpdate; refine wpList_mapUpdate_own _ rfl _ _ _ 131 rfl 3 4 (Maps.int_keyed underlying3) underlying131 _ w4.heap.size j _ rfl hown (by unfold maxLen; omega) _ _ _ rfl rfl (Maps.keyOf_int_mk underlying3 hwf) _ [] (plainElem_bool underlying4 true) ?_; intro w5 hown5 hgrow5)
        | go_in)
      have eK : mapK m.t m.bo (j + 1) = (mapK m.t m.bo j).put (.int .i64 z) (.lit (.bool true)) := by rw [mapK, ez]
      have hown' : w5.ownsMap prog 3 (plainElem (H := Unit) prog 4) w4.heap.size (j + 1) (mapK m.t m.bo (j + 1)) := by rw [eK]; exact hown5
      have ho' := ho.kept hgrow5 (.inr (by simp [Value.ownBlock]; omega))
      have hx5 : At w5 w2.heap.size #[.int .i64 f1, .int .i64 f2, .bool true, .string s, .slice (some ⟨g, 0, none⟩) k5 c5] 27 := (hgrow5.block _ hx4.lt (fun e => by have := Option.some.inj e; omega)).trans hx4
      have hbel5 : Below w.heap.size w w5 := hbel.grown hgrow5 hbel.size (fun q hq => by cases hq; have := hb2.size; omega)
      clear hown5 hgrow5 hown ho hx4 eK
      go_roundw
      case rel => exact ⟨j + 1, by omega, by go_num, hown', ho', hx5, hbel5⟩
      case measure => simp [numOf'] <;> omega
    · obtain rfl : j = k5 := by omega
      obtain ⟨⟨x0, x1, x2, x3, x4⟩, z0, z1, z2, z3, z4⟩ := box5 hx4
      have hel : wr.cell? ⟨g, j - 1, none⟩ = some (.int .i64 (m.t (m.bo + ((j - 1 : Nat) : Int)))) := by
        rw [ho.cellAt (j - 1) (by omega), vsOf, List.getElem?_map, intsL_get (by omega)]; rfl
      have hz := ht' (j - 1) (by omega)
      obtain ⟨z, ez⟩ : ∃ z, m.t (m.bo + ((j - 1 : Nat) : Int)) = z := ⟨_, rfl⟩
      rw [ez] at hel hz
      have hwf : (Lit.int .i64 z).wf = true := WalkArith.wf_i64 (by omega)
      have HT : Hid (∀ i : Nat, i < j → 1 ≤ m.t (m.bo + i) ∧ m.t (m.bo + i) ≤ 9) := Lib.hid ht'
      have HZ : Hid (m.t (m.bo + ((j - 1 : Nat) : Int)) = z) := Lib.hid ez
      clear ht' ez hx4 ho
      go_wp2_with (first
        | (at_delete; refine wpList_delete_own _ rfl _ _ 131 3 rfl 4 (Maps.int_keyed underlying3) underlying131 _ w4.heap.size j _ rfl hown _ _ rfl (Maps.keyOf_int_mk underlying3 hwf) ?_; intro w6 hown6 hturn6)
        | (go_at_call 94; refine (keys_w _ _).mono ?_; rintro e w7 ⟨rfl, rfl⟩)
        | (go_at_call 93; refine (sorted_w _ _ _ _ _ hown6 (by have := hown6.size_le; unfold maxLen; omega) (by have := hown6.size_le; omega)).mono ?_; rintro e w8 ⟨v8, ss, rfl, hp8, hrow8, hk8⟩)
        | go_in)
      go_ret2
      have hbel6 : Below w.heap.size w w6 := hbel.grown hturn6.grown hbel.size (fun q hq => by cases hq; have := hb2.size; omega)
      have em : mapD m.t m.bo j = (mapK m.t m.bo j).del (.int .i64 z) := by unfold mapD; rw [HZ.out]
      have ek := keys_asL (o := m.bo) (t := m.t) (Maps.int_keyed underlying3) underlying3 j (em ▸ hown6) HT.out (ss := ss) (em ▸ hp8)
      have hs6 := hbel6.size
      refine ⟨⟨v8, by rw [Hev.out.1]; rfl, ?_⟩, (hbel6.alloc hs6 _).trans (hk8.mono (by omega))⟩
      rw [Hev.out.2, ← ek]
      have := owns_base hrow8 (b2 := w.heap.size) (by omega)
      rw [List.length_mergeSort]
      exact this
end
end Go.Proofs.Tryz
