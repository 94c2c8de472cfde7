/- Lists of games checked, on both sides: by the kit's walk. Totals and differences by the reference; what valid games hold: by the kit's walk. Plain: books as sorted lists of games. Plain: leaders, as sorted lists of totals. Plain: standings and streaks. Plain: sums over standings, and standings of exchanged scores. A total's numbers checked, on both sides: by the kit's walk. The season's map of totals: a line added: by the kit's walk. The season's map of totals: the lines of games added: by the kit's walk. Standings: their boxes, a score added, what is asked of them, half games: by the kit's walk. Greatest common divisors as the programs compute them: plain laws, no program in sight. A list of totals checked by the reference: by the kit's walk; what a list that passes is like. A list of totals checked by the season: by the kit's walk. Greatest common divisors, rates and kinds, on both sides: by the kit's walk. Rates in lowest terms, on both sides: by the kit's walk. Rates of the play package, and their comparison: by the kit's walk. The closures of the season's leaders: by the kit's walk. Standings: checked by the reference, compared on both sides, half games: by the kit's walk. The reference's standings: by the kit's walk. -/
import Derived.Test.YtbfonnoebbjenaaGreatDoorAxMt
import Derived.Test.YtbfonnoebbjenaaGreatDoorAxK
import Derived.Test.YtbfonnoebbjenaaGreatDoorAxR
import Derived.Test.YtbfonnoebbjenaaGreatDoorAxD
import Derived.Test.YtbfonnoebbjenaaGreatDoorAxH
import Derived.Handy
import Derived.Test.YtbfonnoebbjenaaGreatDoorAxJ
import Derived.Test.YtbfonnoebbjenaaGreatDoorAxA
import Derived.Test.YtbfonnoebbjenaaGreatDoorAxN
import Derived.Sort.Grow
import Derived.Deep.CutBlock
import Derived.Deep.CutRange
namespace Go.Proofs.Tryz
open Go Go.Am Go.RowKit Go.Op
set_option maxRecDepth 100000

/-! ### the season's -/
end Go.Proofs.Tryz

namespace Go.Proofs.Tryz
open Go Go.Am Go.RowKit Go.Op
set_option maxRecDepth 100000

/-! ### plain -/
theorem bookK_ok {g : Nat → GmD} : ∀ {k i : Nat}, bookK g i k = 0 → ∀ j, i ≤ j → j < i + k → gmE (g j) = 0
  | 0, i, _, j, h1, h2 => by omega
  | k + 1, i, h, j, h1, h2 => by
    rw [bookK] at h
    by_cases hq : gmE (g i) = 0
    · rw [if_pos hq] at h
      split at h
      · cases h
      · split at h
        · cases h
        · rcases Nat.lt_or_eq_of_le h1 with q | rfl
          · exact bookK_ok h j q (by omega)
          · exact hq
    · rw [if_neg hq] at h; exact absurd h hq
theorem bookE_ok {g : Nat → GmD} {n : Nat} (h : bookE g n = 0) : n ≤ 64 ∧ ∀ j, j < n → gmE (g j) = 0 := by
  unfold bookE at h
  split at h
  · cases h
  · exact ⟨by omega, fun j hj => bookK_ok h j (Nat.zero_le _) (by omega)⟩
/-! ### the reference's -/
end Go.Proofs.Tryz

namespace Go.Proofs.Tryz
open Go Go.Am Go.RowKit Go.Op
set_option maxRecDepth 100000

/-- One more laid into a sorted list. -/
theorem pair_ins {α : Type} {lt : α → α → Prop} (tr : ∀ {a b c}, lt a b → lt b c → lt a c) {S : List α} {x : α} {q : Nat} (h : S.Pairwise lt) (hq : q ≤ S.length) (hA : ∀ a, 0 < q → S[q - 1]? = some a → lt a x) (hB : ∀ r y, q ≤ r → S[r]? = some y → lt x y) : (S.take q ++ x :: S.drop q).Pairwise lt := by
  have hs := h
  rw [← List.take_append_drop q S] at hs
  obtain ⟨h1, h2, h3⟩ := List.pairwise_append.1 hs
  have hAx : ∀ a ∈ S.take q, lt a x := by
    intro a ha
    obtain ⟨i, hi⟩ := List.getElem?_of_mem ha
    have hiq : i < q := by
      have := (List.getElem?_eq_some_iff.1 hi).1
      rw [List.length_take] at this; omega
    rw [List.getElem?_take, if_pos hiq] at hi
    obtain ⟨z, hz⟩ : ∃ z, S[q - 1]? = some z := ⟨_, List.getElem?_eq_getElem (by omega)⟩
    have hzx := hA z (by omega) hz
    by_cases e : i = q - 1
    · subst e; rw [hi] at hz; cases hz; exact hzx
    · obtain ⟨i1, rfl⟩ := List.getElem?_eq_some_iff.1 hi
      obtain ⟨j1, rfl⟩ := List.getElem?_eq_some_iff.1 hz
      exact tr ((List.pairwise_iff_getElem.1 h) i (q - 1) i1 j1 (by omega)) hzx
  refine List.pairwise_append.2 ⟨h1, List.pairwise_cons.2 ⟨fun b hb => ?_, h2⟩, fun a ha b hb => ?_⟩
  · obtain ⟨r, hr⟩ := List.getElem?_of_mem hb
    rw [List.getElem?_drop] at hr
    exact hB (q + r) b (Nat.le_add_right _ _) hr
  · rcases List.mem_cons.1 hb with rfl | hb
    · exact hAx a ha
    · exact h3 a ha b hb
theorem pair_one {α : Type} {lt : α → α → Prop} (has : ∀ {a b}, lt a b → lt b a → False) : ∀ {l m : List α}, l.Perm m → l.Pairwise lt → m.Pairwise lt → l = m
  | [], m, h, _, _ => h.nil_eq
  | a :: l, [], h, _, _ => absurd h.length_eq (by simp)
  | a :: l, b :: m, h, h1, h2 => by
    obtain ⟨p1, p2⟩ := List.pairwise_cons.1 h1
    obtain ⟨q1, q2⟩ := List.pairwise_cons.1 h2
    by_cases e : a = b
    · subst e
      rw [pair_one has (List.perm_cons a |>.1 h) p2 q2]
    · have m1 : a ∈ m := by
        have := h.subset (List.mem_cons_self (a := a) (l := l))
        rcases List.mem_cons.1 this with q | q
        · exact absurd q e
        · exact q
      have m2 : b ∈ l := by
        have := h.symm.subset (List.mem_cons_self (a := b) (l := m))
        rcases List.mem_cons.1 this with q | q
        · exact absurd q.symm e
        · exact q
      exact (has (p1 b m2) (q1 a m1)).elim

/-! ### the order of games -/
def ltG (a b : GmD) : Prop := befB a b = true
theorem ltG_iff {a b : GmD} : ltG a b ↔ a.day < b.day ∨ (a.day = b.day ∧ bytesLess a.nm b.nm = true) := by
  unfold ltG befB
  simp
theorem ltG_asymm {a b : GmD} (h1 : ltG a b) (h2 : ltG b a) : False := by
  rw [ltG_iff] at *
  rcases h1 with h1 | ⟨h1, h3⟩
  · rcases h2 with h2 | ⟨h2, -⟩ <;> omega
  · rcases h2 with h2 | ⟨h2, h4⟩
    · omega
    · rw [bl_asymm h3] at h4; cases h4
theorem ltG_trans {a b c : GmD} (h1 : ltG a b) (h2 : ltG b c) : ltG a c := by
  rw [ltG_iff] at *
  rcases h1 with h1 | ⟨h1, h3⟩
  · rcases h2 with h2 | ⟨h2, -⟩ <;> (left; omega)
  · rcases h2 with h2 | ⟨h2, h4⟩
    · left; omega
    · exact .inr ⟨by omega, bl_trans h3 h4⟩
theorem ltG_conn {a b : GmD} (h1 : ¬ ltG a b) (h2 : ¬ ltG b a) : a.nm = b.nm := by
  rw [ltG_iff] at *
  simp only [not_or, not_and, Bool.not_eq_true] at *
  exact bl_tri (h1.2 (by omega)) (h2.2 (by omega))
theorem ltG_irrefl (a : GmD) : ¬ ltG a a := fun h => ltG_asymm h h
theorem ltG_ntrans {a b c : GmD} (h1 : ¬ ltG a b) (h2 : ¬ ltG b c) : ¬ ltG a c := by
  rw [ltG_iff] at *
  simp only [not_or, not_and, Bool.not_eq_true] at *
  obtain ⟨p1, p2⟩ := h1
  obtain ⟨q1, q2⟩ := h2
  refine ⟨by omega, fun e => ?_⟩
  have r1 := p2 (by omega)
  have r2 := q2 (by omega)
  cases h : bytesLess a.nm c.nm with
  | false => rfl
  | true =>
    cases h3 : bytesLess b.nm a.nm with
    | true => have := bl_trans h3 h; rw [r2] at this; cases this
    | false => have e := bl_tri r1 h3; rw [← e, h] at r2; cases r2
def SortG (L : List GmD) : Prop := L.Pairwise ltG
def NamesG (L : List GmD) : Prop := L.Pairwise fun a b => a.nm ≠ b.nm
/-- What a book holds. -/
structure BookL (L : List GmD) : Prop where
  sort : SortG L
  names : NamesG L
  ok : ∀ x ∈ L, gmE x = 0
  len : L.length ≤ 64
def gm0 : GmD := ⟨[], 0, 0, [], [], 0, 0, fun _ => ⟨[], [], fun _ => 0⟩, 0⟩
def atG (L : List GmD) (i : Nat) : GmD := L[i]?.getD gm0
def listG (g : Nat → GmD) (n : Nat) : List GmD := (List.range n).map g
theorem listG_len (g : Nat → GmD) (n : Nat) : (listG g n).length = n := by simp [listG]
theorem listG_get {g : Nat → GmD} {n i : Nat} (h : i < n) : (listG g n)[i]? = some (g i) := by simp [listG, h]
theorem listG_at {g : Nat → GmD} {n i : Nat} (h : i < n) : atG (listG g n) i = g i := by unfold atG; rw [listG_get h]; rfl
theorem atG_list (L : List GmD) : listG (atG L) L.length = L := by
  apply List.ext_getElem?
  intro i
  by_cases h : i < L.length
  · rw [listG_get h, List.getElem?_eq_getElem h]
    unfold atG
    rw [List.getElem?_eq_getElem h]; rfl
  · rw [List.getElem?_eq_none (by rw [listG_len]; omega), List.getElem?_eq_none (by omega)]
theorem atG_get {L : List GmD} {i : Nat} (h : i < L.length) : L[i]? = some (atG L i) := by
  unfold atG; rw [List.getElem?_eq_getElem h]; rfl
theorem bookK_in {g : Nat → GmD} : ∀ {k i : Nat}, bookK g i k = 0 → ∀ j, i ≤ j → j < i + k → seenB g (g j).nm j = false ∧ (0 < j → befB (g (j - 1)) (g j) = true)
  | 0, i, _, j, h1, h2 => by omega
  | k + 1, i, h, j, h1, h2 => by
    rw [bookK] at h
    by_cases hq : gmE (g i) = 0
    · rw [if_pos hq] at h
      split at h
      · cases h
      · rename_i hs
        split at h
        · cases h
        · rename_i hb
          rcases Nat.lt_or_eq_of_le h1 with q | rfl
          · exact bookK_in h j q (by omega)
          · refine ⟨by simpa using hs, fun h0 => ?_⟩
            cases hc : befB (g (i - 1)) (g i) with
            | true => rfl
            | false => exact absurd ⟨h0, hc⟩ hb
    · rw [if_neg hq] at h; exact absurd h hq
theorem bookE_book {g : Nat → GmD} {n : Nat} (h : bookE g n = 0) : BookL (listG g n) := by
  obtain ⟨h1, h2⟩ := bookE_ok h
  have h3 : ∀ j, j < n → seenB g (g j).nm j = false ∧ (0 < j → befB (g (j - 1)) (g j) = true) := by
    unfold bookE at h
    split at h
    · cases h
    · exact fun j hj => bookK_in h j (Nat.zero_le _) (by omega)
  have hlt : ∀ d i, i + d + 1 < n → ltG (g i) (g (i + d + 1)) := by
    intro d
    induction d with
    | zero => intro i hi; exact (h3 (i + 1) hi).2 (by omega)
    | succ d ih => intro i hi; exact ltG_trans (ih i (by omega)) ((h3 (i + d + 1 + 1) hi).2 (by omega))
  have hne : ∀ i j, i < j → j < n → (g i).nm ≠ (g j).nm := fun i j hij hj e => by
    have := (seenB_iff g (g j).nm j).2 ⟨i, hij, e⟩
    rw [(h3 j hj).1] at this; cases this
  refine ⟨?_, ?_, ?_, by rw [listG_len]; exact h1⟩
  · unfold SortG
    rw [List.pairwise_iff_getElem]
    intro i j hi hj hij
    rw [listG_len] at hi hj
    simp only [listG, List.getElem_map, List.getElem_range]
    obtain ⟨d, rfl⟩ : ∃ d, j = i + d + 1 := ⟨j - i - 1, by omega⟩
    exact hlt d i hj
  · unfold NamesG
    rw [List.pairwise_iff_getElem]
    intro i j hi hj hij
    rw [listG_len] at hi hj
    simp only [listG, List.getElem_map, List.getElem_range]
    exact hne i j hij hj
  · intro x hx
    obtain ⟨i, hi, rfl⟩ := List.mem_map.1 hx
    exact h2 i (by simpa using hi)
theorem sortG_one {l m : List GmD} (h : l.Perm m) (h1 : SortG l) (h2 : SortG m) : l = m := pair_one ltG_asymm h h1 h2
theorem putG_ok {L : List GmD} {x : GmD} {q : Nat} (hs : SortG L) (hn : ∀ y ∈ L, y.nm ≠ x.nm) (hq : q ≤ L.length) (hA : ∀ a, 0 < q → L[q - 1]? = some a → befB x a = false) (hB : ∀ r y, q ≤ r → L[r]? = some y → befB x y = true) : (L.take q ++ x :: L.drop q).Perm (L ++ [x]) ∧ SortG (L.take q ++ x :: L.drop q) := by
  refine ⟨?_, pair_ins (lt := ltG) ltG_trans hs hq (fun a h0 ha => ?_) hB⟩
  · refine List.perm_middle.trans ?_
    rw [List.take_append_drop]
    exact (List.perm_append_singleton x _).symm
  · refine Classical.byContradiction fun h => ?_
    have h2 := hA a h0 ha
    exact hn a (List.mem_of_getElem? ha) (ltG_conn h (by unfold ltG; rw [h2]; decide))
end Go.Proofs.Tryz

namespace Go.Proofs.Tryz
open Go Go.Am Go.RowKit Go.Op
set_option maxRecDepth 100000

/-- One rate is at most the other one. -/
def leR (i k : Nat) (a b : Tot) : Prop := a.c i * b.c k ≤ b.c i * a.c k
instance (i k : Nat) (a b : Tot) : Decidable (leR i k a b) := inferInstanceAs (Decidable (_ ≤ _))
/-! ### places -/
/-! ### what is handed back -/
end Go.Proofs.Tryz

namespace Go.Proofs.Tryz
open Go Go.Am Go.RowKit Go.Op
set_option maxRecDepth 100000

/-- A team's standing: won, lost, tied, runs for and against. -/
structure Std where
  t : List UInt8
  w : Int
  l : Int
  d : Int
  f : Int
  a : Int
def NamesS (L : List Std) : Prop := L.Pairwise fun a b => a.t ≠ b.t
/-- The numbers of a standing of at most m scores. -/
structure SmS (m : Nat) (s : Std) : Prop where
  w : 0 ≤ s.w ∧ s.w ≤ m
  l : 0 ≤ s.l ∧ s.l ≤ m
  d : 0 ≤ s.d ∧ s.d ≤ m
  f : 0 ≤ s.f ∧ s.f ≤ 999 * m
  a : 0 ≤ s.a ∧ s.a ≤ 999 * m
/-- What holds of standings: names apart, numbers small. -/
structure InvS (m : Nat) (L : List Std) : Prop where
  names : NamesS L
  small : ∀ s ∈ L, SmS m s
  len : L.length ≤ m
/-! ### the order -/
def nS (s : Std) : Int := max 1 (s.w + s.l)
def leW (a b : Std) : Prop := a.w * nS b ≤ b.w * nS a
instance (a b : Std) : Decidable (leW a b) := inferInstanceAs (Decidable (_ ≤ _))
/-- By runs, and then by the name. -/
def lt2 (a b : Std) : Prop := b.f - b.a < a.f - a.a ∨ (a.f - a.a = b.f - b.a ∧ bytesLess a.t b.t = true)
def ltS (a b : Std) : Prop := ¬ leW a b ∨ (leW b a ∧ lt2 a b)
/-! ### streaks -/
structure Skk where
  g : Int
  f : Int
  l : Int
  m : Int
structure InvK (i : Nat) (s : Skk) : Prop where
  g : s.g = i
  f : 0 ≤ s.f ∧ s.f ≤ i
  l : 0 ≤ s.l ∧ s.l ≤ i
  m : s.l ≤ s.m ∧ s.m ≤ i
  e : s.f = i ↔ s.l = i
end Go.Proofs.Tryz

namespace Go.Proofs.Tryz
open Go Go.Am Go.RowKit Go.Op
set_option maxRecDepth 100000

end Go.Proofs.Tryz

namespace Go.Proofs.Tryz
open Go Go.Am Go.RowKit Go.Op
set_option maxRecDepth 100000

def inR (n : Int) : Prop := -999999999 ≤ n ∧ n ≤ 999999999
instance (n : Int) : Decidable (inR n) := inferInstanceAs (Decidable (_ ∧ _))
/-- The first j numbers are in range. -/
def NumK (t : Tot) (j : Nat) : Prop := inR t.gm ∧ ∀ i, i < j → inR (t.c i)
instance (t : Tot) (j : Nat) : Decidable (NumK t j) := inferInstanceAs (Decidable (_ ∧ _))
theorem first2R_w (x y : Int) (b : Nat) (W : World) (h0 : W.cell? ⟨b, 0, none⟩ = some (.int .i64 x)) (h1 : W.cell? ⟨b, 1, none⟩ = some (.int .i64 y)) :
    Calls prog 22 #[.slice (some ⟨b, 0, none⟩) 2 2] W fun e w' => e = .returned (.int .i64 (fstE [x, y])) ∧ w' = W :=
  firstR_w [x, y] b 2 W (by simp) fun j z h => by
    match j, h with
    | 0, h => simp at h; subst h; exact h0
    | 1, h => simp at h; subst h; exact h1
    | j + 2, h => simp at h
end Go.Proofs.Tryz

namespace Go.Proofs.Tryz
open Go Go.Am Go.RowKit Go.Op Go.Maps Go.WideMaps
set_option maxRecDepth 100000

end Go.Proofs.Tryz

namespace Go.Proofs.Tryz
open Go Go.Am Go.RowKit Go.Op Go.Maps Go.WideMaps
set_option maxRecDepth 100000

end Go.Proofs.Tryz

namespace Go.Proofs.Tryz
open Go Go.Am Go.RowKit Go.Op
set_option maxRecDepth 100000

/-! ### what is asked of a standing -/
end Go.Proofs.Tryz

namespace Go.Gcx

end Go.Gcx

namespace Go.Proofs.Tryz
open Go Go.Am Go.RowKit Go.Op
set_option maxRecDepth 100000

end Go.Proofs.Tryz

namespace Go.Proofs.Tryz
open Go Go.Am Go.RowKit Go.Op
set_option maxRecDepth 100000

end Go.Proofs.Tryz

namespace Go.Proofs.Tryz
open Go Go.Am Go.RowKit Go.Gcx Go.Op
set_option maxRecDepth 100000

/-! ### kinds -/
end Go.Proofs.Tryz

namespace Go.Proofs.Tryz
open Go Go.Am Go.RowKit Go.Gcx Go.Op
set_option maxRecDepth 100000

end Go.Proofs.Tryz

namespace Go.Proofs.Tryz
open Go Go.Am Go.RowKit Go.Gcx Go.Op
set_option maxRecDepth 100000

end Go.Proofs.Tryz

namespace Go.Proofs.Tryz
open Go Go.Am Go.RowKit Go.Op
set_option maxRecDepth 100000

/-- So many draws on, these blocks behind. -/
def Grn (w W : World) : Prop := ∃ q os, W = Go.Sort.grow (w.drewN q) os
theorem Grn.refl (w : World) : Grn w w := ⟨0, #[], by rw [Go.Sort.grow_empty]; rfl⟩
theorem Grn.drew {w W : World} (h : Grn w W) : Grn w W.drew := by
  obtain ⟨q, os, rfl⟩ := h
  exact ⟨q + 1, os, by rw [Go.Sort.drew_grow]; show Go.Sort.grow ((w.drewN q).drewN 1) os = _; rw [World.drewN_drewN]⟩
theorem Grn.alloc {w W : World} (h : Grn w W) (o : Obj) : Grn w (W.alloc o) := by
  obtain ⟨q, os, rfl⟩ := h
  exact ⟨q, os ++ #[o], by rw [Go.Sort.alloc_eq_grow, Go.Sort.grow_grow]⟩
end Go.Proofs.Tryz

namespace Go.Proofs.Tryz
open Go Go.Am Go.RowKit Go.Op
set_option maxRecDepth 100000

instance (a b : Std) : Decidable (lt2 a b) := inferInstanceAs (Decidable (_ ∨ _))
instance (a b : Std) : Decidable (ltS a b) := inferInstanceAs (Decidable (_ ∨ _))
end Go.Proofs.Tryz

namespace Go.Proofs.Tryz
open Go Go.Am Go.RowKit Go.Op
set_option maxRecDepth 100000

end Go.Proofs.Tryz
