/- Plain: standings and streaks. -/
import Derived.Test.YtbfonnoebbjenaaGreatDoorAxL
import Derived.Test.YtbfonnoebbjenaaGreatDoorAxF
namespace Go.Proofs.Tryz
open Go Go.Am Go.RowKit Go.Op
set_option maxRecDepth 100000

/-- A team's standing: won, lost, tied, runs for and against. -/
structure Std where
  t : List UInt8
  w : Int
  l : Int
  d : Int
  f : Int
  a : Int
def zeroS (p : List UInt8) : Std := ⟨p, 0, 0, 0, 0, 0⟩
def addS (s : Std) (own oth : Int) : Std := ⟨s.t, if oth < own then s.w + 1 else s.w, if own < oth then s.l + 1 else s.l, if oth < own then s.d else if own < oth then s.d else s.d + 1, s.f + own, s.a + oth⟩
/-- One score more. -/
def bump (p : List UInt8) (own oth : Int) : List Std → List Std
  | [] => [addS (zeroS p) own oth]
  | x :: r => if x.t = p then addS x own oth :: r else x :: bump p own oth r
def getS (p : List UInt8) (L : List Std) : Option Std := L.find? fun s => s.t == p
def NamesS (L : List Std) : Prop := L.Pairwise fun a b => a.t ≠ b.t
theorem getS_some {p : List UInt8} {L : List Std} {s : Std} (h : getS p L = some s) : s ∈ L ∧ s.t = p := by
  unfold getS at h
  exact ⟨List.mem_of_find?_eq_some h, by have := List.find?_some h; simpa using this⟩
theorem getS_none {p : List UInt8} {L : List Std} (h : getS p L = none) : ∀ s ∈ L, s.t ≠ p := fun s hs => by
  unfold getS at h
  have := List.find?_eq_none.1 h s hs
  simpa using this
theorem getS_get {L : List Std} (h : NamesS L) {s : Std} (hs : s ∈ L) : getS s.t L = some s := by
  cases hg : getS s.t L with
  | none => exact absurd rfl (getS_none hg s hs)
  | some x =>
    obtain ⟨h1, h2⟩ := getS_some hg
    obtain ⟨i, hi⟩ := List.getElem?_of_mem hs
    obtain ⟨j, hj⟩ := List.getElem?_of_mem h1
    by_cases e : i = j
    · subst e; rw [hi] at hj; rw [Option.some.inj hj]
    · exfalso
      obtain ⟨i1, rfl⟩ := List.getElem?_eq_some_iff.1 hi
      obtain ⟨j1, rfl⟩ := List.getElem?_eq_some_iff.1 hj
      rcases Nat.lt_or_gt_of_ne e with q | q
      · exact (List.pairwise_iff_getElem.1 h) i j i1 j1 q h2.symm
      · exact (List.pairwise_iff_getElem.1 h) j i j1 i1 q h2
theorem bump_name {p : List UInt8} {o h : Int} {s : Std} : ∀ {L : List Std}, s ∈ bump p o h L → s.t = p ∨ s ∈ L
  | [], hs => by simp only [bump, List.mem_singleton] at hs; subst hs; exact .inl rfl
  | x :: r, hs => by
    unfold bump at hs
    split at hs
    · rename_i e
      rcases List.mem_cons.1 hs with q | q
      · subst q; exact .inl e
      · exact .inr (List.mem_cons_of_mem _ q)
    · rcases List.mem_cons.1 hs with q | q
      · subst q; exact .inr List.mem_cons_self
      · rcases bump_name q with q | q
        · exact .inl q
        · exact .inr (List.mem_cons_of_mem _ q)
theorem bump_names {p : List UInt8} {o h : Int} : ∀ {L : List Std}, NamesS L → NamesS (bump p o h L)
  | [], _ => List.pairwise_singleton _ _
  | x :: r, hL => by
    obtain ⟨h1, h2⟩ := List.pairwise_cons.1 hL
    unfold bump
    split
    · exact List.pairwise_cons.2 ⟨fun y hy => h1 y hy, h2⟩
    · rename_i e
      refine List.pairwise_cons.2 ⟨fun y hy => ?_, bump_names h2⟩
      rcases bump_name hy with q | q
      · rw [q]; exact e
      · exact h1 y q
theorem bump_mem {p : List UInt8} {o h : Int} {s : Std} : ∀ {L : List Std}, NamesS L → (s ∈ bump p o h L ↔ (s = addS ((getS p L).getD (zeroS p)) o h) ∨ (s.t ≠ p ∧ s ∈ L))
  | [], _ => by simp [bump, getS]
  | x :: r, hL => by
    obtain ⟨h1, h2⟩ := List.pairwise_cons.1 hL
    unfold bump getS
    split
    · rename_i e
      simp only [List.find?_cons, e, BEq.rfl, Option.getD_some, List.mem_cons]
      constructor
      · rintro (q | q)
        · exact .inl q
        · exact .inr ⟨fun q2 => h1 s q (by rw [e, q2]), .inr q⟩
      · rintro (q | ⟨q1, q2 | q2⟩)
        · exact .inl q
        · subst q2; exact absurd e q1
        · exact .inr q2
    · rename_i e
      have ih := bump_mem (p := p) (o := o) (h := h) (s := s) h2
      have eb : (x.t == p) = false := by simpa using e
      simp only [List.find?_cons, eb, List.mem_cons]
      unfold getS at ih
      rw [ih]
      constructor
      · rintro (q | q | q)
        · subst q; exact .inr ⟨e, .inl rfl⟩
        · exact .inl q
        · exact .inr ⟨q.1, .inr q.2⟩
      · rintro (q | ⟨q1, q2 | q2⟩)
        · exact .inr (.inl q)
        · exact .inl q2
        · exact .inr (.inr ⟨q1, q2⟩)
theorem bump_len {p : List UInt8} {o h : Int} : ∀ {L : List Std}, (bump p o h L).length ≤ L.length + 1
  | [] => by simp [bump]
  | x :: r => by
    unfold bump
    split
    · simp
    · have := bump_len (p := p) (o := o) (h := h) (L := r)
      simp only [List.length_cons]; omega
/-- The one that stands at a place. -/
theorem bump_at {p : List UInt8} {o h : Int} : ∀ {L : List Std} {i : Nat} {s : Std}, (∀ j x, j < i → L[j]? = some x → x.t ≠ p) → L[i]? = some s → s.t = p → bump p o h L = L.set i (addS s o h)
  | [], _, _, _, hs, _ => by simp at hs
  | x :: r, 0, s, _, hs, e => by
    simp only [List.getElem?_cons_zero, Option.some.injEq] at hs
    subst hs
    unfold bump
    rw [if_pos e]; rfl
  | x :: r, i + 1, s, hl, hs, e => by
    simp only [List.getElem?_cons_succ] at hs
    unfold bump
    rw [if_neg (hl 0 x (Nat.succ_pos _) rfl), bump_at (fun j y hj hy => hl (j + 1) y (by omega) hy) hs e]; rfl
theorem bump_new {p : List UInt8} {o h : Int} : ∀ {L : List Std}, (∀ j x, j < L.length → L[j]? = some x → x.t ≠ p) → bump p o h L = L ++ [addS (zeroS p) o h]
  | [], _ => rfl
  | x :: r, hl => by
    unfold bump
    rw [if_neg (hl 0 x (by simp) rfl), bump_new (fun j y hj hy => hl (j + 1) y (by simp; omega) hy)]; rfl
/-- The standings of games, one behind the other one. -/
def gamS (g : GmD) (L : List Std) : List Std := bump g.t1 g.s1 g.s0 (bump g.t0 g.s0 g.s1 L)
def stdsK (g : Nat → GmD) : Nat → List Std
  | 0 => []
  | n + 1 => gamS (g n) (stdsK g n)
/-- The numbers of a standing of at most m scores. -/
structure SmS (m : Nat) (s : Std) : Prop where
  w : 0 ≤ s.w ∧ s.w ≤ m
  l : 0 ≤ s.l ∧ s.l ≤ m
  d : 0 ≤ s.d ∧ s.d ≤ m
  f : 0 ≤ s.f ∧ s.f ≤ 999 * m
  a : 0 ≤ s.a ∧ s.a ≤ 999 * m
theorem SmS.mono {m n : Nat} {s : Std} (h : SmS m s) (hmn : m ≤ n) : SmS n s := by
  obtain ⟨h1, h2, h3, h4, h5⟩ := h
  constructor <;> omega
theorem SmS.zero (m : Nat) (p : List UInt8) : SmS m (zeroS p) := by
  constructor <;> simp only [zeroS] <;> omega
theorem SmS.add {m : Nat} {s : Std} (h : SmS m s) {o g : Int} (h1 : 0 ≤ o ∧ o ≤ 999) (h2 : 0 ≤ g ∧ g ≤ 999) : SmS (m + 1) (addS s o g) := by
  obtain ⟨q1, q2, q3, q4, q5⟩ := h
  constructor <;> simp only [addS] <;> (repeat' split) <;> omega
/-- What holds of standings: names apart, numbers small. -/
structure InvS (m : Nat) (L : List Std) : Prop where
  names : NamesS L
  small : ∀ s ∈ L, SmS m s
  len : L.length ≤ m
theorem InvS.nil : InvS 0 [] := ⟨List.Pairwise.nil, fun _ h => absurd h List.not_mem_nil, Nat.le_refl _⟩
theorem InvS.mono {m n : Nat} {L : List Std} (h : InvS m L) (hmn : m ≤ n) : InvS n L := ⟨h.names, fun s hs => (h.small s hs).mono hmn, Nat.le_trans h.len hmn⟩
theorem InvS.getD {m : Nat} {L : List Std} (h : InvS m L) (p : List UInt8) : SmS m ((getS p L).getD (zeroS p)) := by
  cases hg : getS p L with
  | none => exact SmS.zero _ _
  | some x => exact h.small x (getS_some hg).1
theorem InvS.bump {m : Nat} {L : List Std} (h : InvS m L) (p : List UInt8) {o g : Int} (h1 : 0 ≤ o ∧ o ≤ 999) (h2 : 0 ≤ g ∧ g ≤ 999) : InvS (m + 1) (bump p o g L) :=
  ⟨bump_names h.names, fun s hs => by
    rcases (bump_mem h.names).1 hs with q | ⟨-, q⟩
    · subst q; exact (h.getD p).add h1 h2
    · exact (h.small s q).mono (Nat.le_succ _), Nat.le_trans bump_len (Nat.succ_le_succ h.len)⟩
def ScOk (g : GmD) : Prop := (0 ≤ g.s0 ∧ g.s0 ≤ 999) ∧ 0 ≤ g.s1 ∧ g.s1 ≤ 999
theorem InvS.gam {m : Nat} {L : List Std} (h : InvS m L) {g : GmD} (hg : ScOk g) : InvS (m + 2) (gamS g L) := (h.bump g.t0 hg.1 hg.2).bump g.t1 hg.2 hg.1
theorem InvS.all {g : Nat → GmD} : ∀ {n : Nat}, (∀ i, i < n → ScOk (g i)) → InvS (2 * n) (stdsK g n)
  | 0, _ => InvS.nil
  | n + 1, h => (InvS.all fun i hi => h i (by omega)).gam (h n (by omega))

/-! ### the order -/
def nS (s : Std) : Int := max 1 (s.w + s.l)
theorem nS_pos (s : Std) : 0 < nS s := by unfold nS; omega
def leW (a b : Std) : Prop := a.w * nS b ≤ b.w * nS a
instance (a b : Std) : Decidable (leW a b) := inferInstanceAs (Decidable (_ ≤ _))
theorem leW_total (a b : Std) : leW a b ∨ leW b a := by unfold leW; omega
theorem leW_trans {a b c : Std} (h1 : leW a b) (h2 : leW b c) : leW a c := by
  unfold leW at *
  have ha := nS_pos a
  have hb := nS_pos b
  have hc := nS_pos c
  have k1 : a.w * nS b * nS c ≤ b.w * nS a * nS c := Int.mul_le_mul_of_nonneg_right h1 (by omega)
  have k2 : b.w * nS c * nS a ≤ c.w * nS b * nS a := Int.mul_le_mul_of_nonneg_right h2 (by omega)
  have e1 : b.w * nS a * nS c = b.w * nS c * nS a := Int.mul_right_comm ..
  have e2 : a.w * nS b * nS c = a.w * nS c * nS b := Int.mul_right_comm ..
  have e3 : c.w * nS b * nS a = c.w * nS a * nS b := Int.mul_right_comm ..
  exact Int.le_of_mul_le_mul_right (a := nS b) (by omega) hb
/-- By runs, and then by the name. -/
def lt2 (a b : Std) : Prop := b.f - b.a < a.f - a.a ∨ (a.f - a.a = b.f - b.a ∧ bytesLess a.t b.t = true)
theorem lt2_ntrans {a b c : Std} (h1 : ¬ lt2 a b) (h2 : ¬ lt2 b c) : ¬ lt2 a c := by
  unfold lt2 at *
  simp only [not_or, not_and, Bool.not_eq_true] at *
  obtain ⟨p1, p2⟩ := h1
  obtain ⟨q1, q2⟩ := h2
  refine ⟨by omega, fun e => ?_⟩
  have r1 := p2 (by omega)
  have r2 := q2 (by omega)
  cases h : bytesLess a.t c.t with
  | false => rfl
  | true =>
    cases h3 : bytesLess b.t a.t with
    | true => have := bl_trans h3 h; rw [r2] at this; cases this
    | false => have e := bl_tri r1 h3; rw [← e, h] at r2; cases r2
theorem lt2_asymm {a b : Std} (h1 : lt2 a b) (h2 : lt2 b a) : False := by
  unfold lt2 at *
  rcases h1 with h1 | ⟨h1, h3⟩
  · rcases h2 with h2 | ⟨h2, -⟩ <;> omega
  · rcases h2 with h2 | ⟨h2, h4⟩
    · omega
    · rw [bl_asymm h3] at h4; cases h4
theorem lt2_conn {a b : Std} (h1 : ¬ lt2 a b) (h2 : ¬ lt2 b a) : a.t = b.t := by
  unfold lt2 at *
  simp only [not_or, not_and, Bool.not_eq_true] at *
  exact bl_tri (h1.2 (by omega)) (h2.2 (by omega))
def ltS (a b : Std) : Prop := ¬ leW a b ∨ (leW b a ∧ lt2 a b)
theorem ltS_no {a b : Std} : ¬ ltS a b ↔ leW a b ∧ (leW b a → ¬ lt2 a b) := by
  unfold ltS
  simp only [not_or, Decidable.not_not, not_and]
theorem ltS_asymm {a b : Std} (h1 : ltS a b) (h2 : ltS b a) : False := by
  rcases h1 with q | ⟨q, r⟩
  · rcases h2 with q2 | ⟨q2, -⟩
    · rcases leW_total a b with t | t
      · exact q t
      · exact q2 t
    · exact q q2
  · rcases h2 with q2 | ⟨-, r2⟩
    · exact q2 q
    · exact lt2_asymm r r2
theorem ltS_irrefl (a : Std) : ¬ ltS a a := fun h => ltS_asymm h h
theorem ltS_ntrans {a b c : Std} (h1 : ¬ ltS a b) (h2 : ¬ ltS b c) : ¬ ltS a c := by
  rw [ltS_no] at *
  obtain ⟨p1, p2⟩ := h1
  obtain ⟨q1, q2⟩ := h2
  exact ⟨leW_trans p1 q1, fun h => lt2_ntrans (p2 (leW_trans q1 h)) (q2 (leW_trans h p1))⟩
theorem ltS_trans {a b c : Std} (h1 : ltS a b) (h2 : ltS b c) : ltS a c := by
  refine Classical.byContradiction fun h => ?_
  exact ltS_ntrans h (fun q => ltS_asymm h2 q) h1
theorem ltS_conn {a b : Std} (h1 : ¬ ltS a b) (h2 : ¬ ltS b a) : a.t = b.t := by
  rw [ltS_no] at *
  exact lt2_conn (h1.2 h2.1) (h2.2 h1.1)
def SortS (L : List Std) : Prop := L.Pairwise ltS
/-- What the season's comparison answers. -/
def cfS (x y : Std) : Int := fstE [cmpI (y.w * nS x) (x.w * nS y), cmpI (y.f - y.a) (x.f - x.a), cmpS x.t y.t]
theorem cmpS_neg' (a b : List UInt8) : cmpS a b < 0 ↔ bytesLess a b = true := by
  unfold cmpS
  cases h : bytesLess a b
  · by_cases h2 : (a == b) = true <;> simp [h2]
  · simp
theorem cfS_lt (x y : Std) : cfS x y < 0 ↔ ltS x y := by
  unfold cfS ltS leW lt2
  generalize y.w * nS x = u
  generalize x.w * nS y = v
  generalize y.f - y.a = d
  generalize x.f - x.a = e
  have hS := cmpS_neg' x.t y.t
  unfold cmpI
  by_cases h1 : u < v
  · rw [if_pos h1]
    simp only [fstE]
    exact ⟨fun _ => .inl (by omega), fun _ => by rw [if_neg (by decide)]; decide⟩
  · rw [if_neg h1]
    by_cases h2 : v < u
    · rw [if_pos h2]
      simp only [fstE]
      exact ⟨fun h => by rw [if_neg (by decide)] at h; exact absurd h (by decide), fun h => by rcases h with h | ⟨h, -⟩ <;> omega⟩
    · rw [if_neg h2]
      by_cases h3 : d < e
      · rw [if_pos h3]
        simp only [fstE, if_true]
        exact ⟨fun _ => .inr ⟨by omega, .inl h3⟩, fun _ => by rw [if_neg (by decide)]; decide⟩
      · rw [if_neg h3]
        by_cases h4 : e < d
        · rw [if_pos h4]
          simp only [fstE, if_true]
          exact ⟨fun h => by rw [if_neg (by decide)] at h; exact absurd h (by decide), fun h => by rcases h with h | ⟨-, h | ⟨h, -⟩⟩ <;> omega⟩
        · rw [if_neg h4]
          simp only [fstE, if_true]
          have e2 : (if cmpS x.t y.t = 0 then 0 else cmpS x.t y.t) = cmpS x.t y.t := by split <;> simp_all
          rw [e2, hS]
          exact ⟨fun h => .inr ⟨by omega, .inr ⟨by omega, h⟩⟩, fun h => by
            rcases h with h | ⟨-, h | ⟨-, h⟩⟩
            · omega
            · omega
            · exact h⟩

/-! ### streaks -/
structure Skk where
  g : Int
  f : Int
  l : Int
  m : Int
structure InvK (i : Nat) (s : Skk) : Prop where
  g : s.g = i
  f : 0 ≤ s.f ∧ s.f ≤ i
  l : 0 ≤ s.l ∧ s.l ≤ i
  m : s.l ≤ s.m ∧ s.m ≤ i
  e : s.f = i ↔ s.l = i
end Go.Proofs.Tryz
