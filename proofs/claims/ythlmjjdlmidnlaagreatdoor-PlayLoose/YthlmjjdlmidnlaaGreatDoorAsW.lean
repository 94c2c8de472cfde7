/- Plain: two plays with the same string are the same. Plain: a valid play's strings, letters and touches. Plain: a valid play and its canonical form hold the same moves. Plain: the canonical form of a valid play is the play. Plain: a play that is written loosely, and its canonical form. Plain: the canonical form of a loose play is that of the play. -/
import Derived.Test.YthlmjjdlmidnlaaGreatDoorAsR
import Derived.Test.YthlmjjdlmidnlaaGreatDoorAsJ
import Derived.Test.YthlmjjdlmidnlaaGreatDoorAsC
namespace Go.Proofs.Tryz
open Go Go.Am Go.RowKit Go.Dr
set_option maxRecDepth 100000

theorem dgB_inj {a b : Int} (ha : 0 ≤ a ∧ a ≤ 9) (hb : 0 ≤ b ∧ b ≤ 9) (h : dgB a = dgB b) : a = b := by
  have := congrArg UInt8.toNat h
  unfold dgB at this
  rw [UInt8.toNat_ofNat', UInt8.toNat_ofNat'] at this
  omega
theorem dgB_range {a : Int} (ha : 0 ≤ a ∧ a ≤ 9) : 48 ≤ (dgB a).toNat ∧ (dgB a).toNat ≤ 57 := by
  unfold dgB
  rw [UInt8.toNat_ofNat']
  omega
theorem map_dgB_inj : ∀ {l m : List Int}, (∀ z ∈ l, 0 ≤ z ∧ z ≤ 9) → (∀ z ∈ m, 0 ≤ z ∧ z ≤ 9) → l.map dgB = m.map dgB → l = m
  | [], [], _, _, _ => rfl
  | [], _ :: _, _, _, h => by simp at h
  | _ :: _, [], _, _, h => by simp at h
  | a :: l, b :: m, h1, h2, h => by
    simp only [List.map_cons, List.cons.injEq] at h
    have e := dgB_inj (h1 a (by simp)) (h2 b (by simp)) h.1
    rw [e, map_dgB_inj (fun z hz => h1 z (by simp [hz])) (fun z hz => h2 z (by simp [hz])) h.2]

/-- A move whose string is one word. -/
def WordM (m : MvD) : Prop := DigM m ∧ m.sn = 1 ∧ ∀ b ∈ strL m.y m.so m.sn, b ≠ 32
theorem strL_one {y : Int → Int} {o n : Int} (h : n = 1) : ∃ b, strL y o n = [b] := by
  subst h
  exact ⟨_, rfl⟩
theorem moveL_inj {m m' : MvD} (h : WordM m) (h' : WordM m') (e : moveL m = moveL m') : sameMD m m' = true := by
  obtain ⟨⟨d1, d2, d3⟩, s1, -⟩ := h
  obtain ⟨⟨d1', d2', d3'⟩, s1', -⟩ := h'
  obtain ⟨b, hb⟩ := strL_one (y := m.y) (o := m.so) s1
  obtain ⟨b', hb'⟩ := strL_one (y := m'.y) (o := m'.so) s1'
  unfold moveL at e
  rw [hb, hb'] at e
  simp only [List.cons_append, List.nil_append, List.cons.injEq] at e
  obtain ⟨e1, e2, e3, e4, e5⟩ := e
  have q1 := dgB_inj d1 d1' e1
  have q3 := dgB_inj d2 d2' e3
  have q2 : decide (m.x ≠ 0) = decide (m'.x ≠ 0) := by
    by_cases x1 : m.x = 0 <;> by_cases x2 : m'.x = 0 <;> simp [x1, x2] at e2 ⊢
  have q5 : tchs m = tchs m' := by
    by_cases t1 : (tchs m).length = 0
    · by_cases t2 : (tchs m').length = 0
      · rw [List.length_eq_zero_iff.1 t1, List.length_eq_zero_iff.1 t2]
      · rw [if_pos t1, if_neg t2, List.length_eq_zero_iff.1 t1] at e5
        simp at e5
    · by_cases t2 : (tchs m').length = 0
      · rw [if_neg t1, if_pos t2, List.length_eq_zero_iff.1 t2] at e5
        simp at e5
      · rw [if_neg t1, if_neg t2] at e5
        simp only [List.singleton_append, List.cons.injEq, true_and] at e5
        exact map_dgB_inj d3 d3' e5
  unfold sameMD
  rw [q1, q2, q3, q5, hb, hb', e4]
  simp
theorem moveL_same {m m' : MvD} (h : sameMD m m' = true) : moveL m = moveL m' := by
  unfold sameMD at h
  simp only [Bool.and_eq_true, decide_eq_true_eq, beq_iff_eq] at h
  obtain ⟨⟨⟨⟨h1, h2⟩, h3⟩, h4⟩, h5⟩ := h
  unfold moveL
  have hx : (m.x = 0) ↔ (m'.x = 0) := by
    by_cases x1 : m.x = 0 <;> by_cases x2 : m'.x = 0 <;> simp [x1, x2] at h3 ⊢
  rw [h1, h2, h4, h5]
  by_cases x1 : m.x = 0
  · rw [if_pos x1, if_pos (hx.1 x1)]
  · rw [if_neg x1, if_neg (fun q => x1 (hx.2 q))]
theorem moveL_head {m : MvD} (h : WordM m) : ∃ c l, moveL m = c :: l ∧ 48 ≤ c.toNat ∧ c.toNat ≤ 57 := ⟨dgB m.fr, _, by unfold moveL; simp only [List.cons_append, List.nil_append]; rfl, (dgB_range h.1.1).1, (dgB_range h.1.1).2⟩
theorem moveL_nosp {m : MvD} (h : WordM m) : (32 : UInt8) ∉ moveL m := by
  obtain ⟨⟨d1, d2, d3⟩, s1, hs⟩ := h
  have nd : ∀ z : Int, (0 ≤ z ∧ z ≤ 9) → dgB z ≠ 32 := fun z hz e => by
    have := dgB_range hz
    rw [e] at this
    have : (32 : UInt8).toNat = 32 := rfl
    omega
  unfold moveL
  intro hm
  simp only [List.mem_append, List.mem_singleton, List.mem_map] at hm
  rcases hm with ((((hm | hm) | hm) | hm) | hm) | ⟨z, hz, hm⟩
  · exact nd _ d1 hm.symm
  · by_cases x1 : m.x = 0 <;> simp [x1] at hm
  · exact nd _ d2 hm.symm
  · exact hs _ hm rfl
  · by_cases t1 : (tchs m).length = 0 <;> simp [t1] at hm
  · exact nd _ (d3 z hz) hm

/-! ### words -/
theorem split_inj : ∀ {a a' r r' : List UInt8}, (32 : UInt8) ∉ a → (32 : UInt8) ∉ a' → a ++ 32 :: r = a' ++ 32 :: r' → a = a' ∧ r = r'
  | [], [], _, _, _, _, h => by simp at h; exact ⟨rfl, h⟩
  | [], c :: a', _, _, _, h2, h => by
    simp only [List.nil_append, List.cons_append, List.cons.injEq] at h
    exact absurd (by simp [h.1]) h2
  | c :: a, [], _, _, h1, _, h => by
    simp only [List.nil_append, List.cons_append, List.cons.injEq] at h
    exact absurd (by simp [h.1]) h1
  | c :: a, c' :: a', _, _, h1, h2, h => by
    simp only [List.cons_append, List.cons.injEq] at h
    obtain ⟨e1, e2⟩ := split_inj (by simp at h1; exact h1.2) (by simp at h2; exact h2.2) h.2
    exact ⟨by rw [h.1, e1], e2⟩
theorem nosplit {a a' r : List UInt8} (h1 : (32 : UInt8) ∉ a) (h : a = a' ++ 32 :: r) : False := h1 (by rw [h]; simp)
theorem join_inj : ∀ {ws vs : List (List UInt8)} {a b : List UInt8}, (32 : UInt8) ∉ a → (32 : UInt8) ∉ b → (∀ x ∈ ws, (32 : UInt8) ∉ x) → (∀ x ∈ vs, (32 : UInt8) ∉ x) → a ++ (ws.map ([32] ++ ·)).flatten = b ++ (vs.map ([32] ++ ·)).flatten → a = b ∧ ws = vs
  | [], [], a, b, _, _, _, _, h => by simp at h; exact ⟨h, rfl⟩
  | [], v :: vs, a, b, h1, _, _, _, h => by
    simp only [List.map_nil, List.flatten_nil, List.append_nil, List.map_cons, List.flatten_cons] at h
    exact (nosplit h1 (by rw [h]; simp only [List.cons_append]; rfl)).elim
  | w :: ws, [], a, b, _, h2, _, _, h => by
    simp only [List.map_nil, List.flatten_nil, List.append_nil, List.map_cons, List.flatten_cons] at h
    exact (nosplit h2 (by rw [← h]; simp only [List.cons_append]; rfl)).elim
  | w :: ws, v :: vs, a, b, h1, h2, h3, h4, h => by
    simp only [List.map_cons, List.flatten_cons, List.cons_append] at h
    obtain ⟨e1, e2⟩ := split_inj h1 h2 h
    obtain ⟨e3, e4⟩ := join_inj (h3 w (by simp)) (h4 v (by simp)) (fun x hx => h3 x (by simp [hx])) (fun x hx => h4 x (by simp [hx])) e2
    exact ⟨e1, by rw [e3, e4]⟩

/-! ### plays -/
/-- A play whose string can be read word by word. -/
structure WordP (l1 l2 : List UInt8) (d : Nat → MvD) (n : Nat) : Prop where
  h1 : ∀ b ∈ l1, b ≠ 32 ∧ b ≠ 45
  h2 : ∀ b ∈ l2, b ≠ 32 ∧ b ≠ 45
  hd : ∀ i, i < n → WordM (d i)
theorem dashL_nosp {l : List UInt8} (h : ∀ b ∈ l, b ≠ 32 ∧ b ≠ 45) : (32 : UInt8) ∉ dashL l := by
  unfold dashL
  split
  · simp
  · exact fun q => (h _ q).1 rfl
theorem dashL_inj {l m : List UInt8} (h1 : ∀ b ∈ l, b ≠ 32 ∧ b ≠ 45) (h2 : ∀ b ∈ m, b ≠ 32 ∧ b ≠ 45) (h : dashL l = dashL m) : l = m := by
  unfold dashL at h
  by_cases e1 : l.length = 0
  · by_cases e2 : m.length = 0
    · rw [List.length_eq_zero_iff.1 e1, List.length_eq_zero_iff.1 e2]
    · rw [if_pos e1, if_neg e2] at h
      exact absurd rfl (h2 45 (by rw [← h]; simp)).2
  · by_cases e2 : m.length = 0
    · rw [if_neg e1, if_pos e2] at h
      exact absurd rfl (h1 45 (by rw [h]; simp)).2
    · rw [if_neg e1, if_neg e2] at h; exact h
def mvW (d : Nat → MvD) (n : Nat) : List (List UInt8) := (List.range n).map fun i => moveL (d i)
theorem mvsL_flat (d : Nat → MvD) : ∀ n, mvsL d n = ((mvW d n).map ([32] ++ ·)).flatten
  | 0 => rfl
  | n + 1 => by
    rw [mvsL, mvsL_flat d n]
    unfold mvW
    rw [List.range_succ, List.map_append, List.map_append, List.flatten_append]
    simp
def lateW (lx : Bool) : List (List UInt8) := if lx = true then [[108, 97, 116, 101]] else []
theorem playL_join (l1 l2 : List UInt8) (lx : Bool) (d : Nat → MvD) (n : Nat) : playL l1 l2 lx d n = dashL l1 ++ ((dashL l2 :: (lateW lx ++ mvW d n)).map ([32] ++ ·)).flatten := by
  unfold playL
  rw [mvsL_flat]
  cases lx <;> simp [lateL, lateW]
theorem mvW_inj {d d' : Nat → MvD} {n n' : Nat} (h : ∀ i, i < n → WordM (d i)) (h' : ∀ i, i < n' → WordM (d' i)) (e : mvW d n = mvW d' n') : sameN d n d' n' = true := by
  have hl : n = n' := by have := congrArg List.length e; simpa [mvW] using this
  subst hl
  rw [allK_same]
  have hk : ∀ k, k ≤ n → allK (fun i => sameMD (d i) (d' i)) k = true := fun k => by
    induction k with
    | zero => intro _; rfl
    | succ k ih =>
      intro hk
      rw [allK, ih (by omega), Bool.true_and]
      have := congrArg (fun l => l[k]?) e
      simp only [mvW, List.getElem?_map, List.getElem?_range (show k < n by omega), Option.map_some, Option.some.injEq] at this
      exact moveL_inj (h k (by omega)) (h' k (by omega)) this
  exact hk n (Nat.le_refl _)
theorem playL_inj {l1 l2 m1 m2 : List UInt8} {lx mx : Bool} {d d' : Nat → MvD} {n n' : Nat} (h : WordP l1 l2 d n) (h' : WordP m1 m2 d' n') (e : playL l1 l2 lx d n = playL m1 m2 mx d' n') : l1 = m1 ∧ l2 = m2 ∧ lx = mx ∧ sameN d n d' n' = true := by
  rw [playL_join, playL_join] at e
  have hw : ∀ {l2 : List UInt8} {lx : Bool} {d : Nat → MvD} {n : Nat}, (∀ b ∈ l2, b ≠ 32 ∧ b ≠ 45) → (∀ i, i < n → WordM (d i)) → ∀ x ∈ dashL l2 :: (lateW lx ++ mvW d n), (32 : UInt8) ∉ x := fun {l2 lx d n} q1 q2 x hx => by
    simp only [List.mem_cons, List.mem_append] at hx
    rcases hx with rfl | hx | hx
    · exact dashL_nosp q1
    · cases lx <;> simp [lateW] at hx
      subst hx; decide
    · unfold mvW at hx
      obtain ⟨i, hi, rfl⟩ := List.mem_map.1 hx
      exact moveL_nosp (q2 i (List.mem_range.1 hi))
  obtain ⟨e1, e2⟩ := join_inj (dashL_nosp h.h1) (dashL_nosp h'.h1) (hw h.h2 h.hd) (hw h'.h2 h'.hd) e
  simp only [List.cons.injEq] at e2
  obtain ⟨e2, e3⟩ := e2
  have hh : ∀ {d : Nat → MvD} {n : Nat} {r : List (List UInt8)}, (∀ i, i < n → WordM (d i)) → mvW d n = [108, 97, 116, 101] :: r → False := fun {d n r} q e => by
    cases n with
    | zero => cases e
    | succ n =>
      unfold mvW at e
      rw [List.range_succ_eq_map] at e
      simp only [List.map_cons, List.cons.injEq] at e
      obtain ⟨c, l, hc, c1, c2⟩ := moveL_head (q 0 (by omega))
      rw [hc] at e
      simp only [List.cons.injEq] at e
      rw [e.1.1] at c2
      exact absurd c2 (by decide)
  have e4 : lx = mx ∧ mvW d n = mvW d' n' := by
    cases lx <;> cases mx <;> simp only [lateW, Bool.false_eq_true, if_false, if_true, List.nil_append, List.cons_append, List.cons.injEq, true_and] at e3
    · exact ⟨rfl, e3⟩
    · exact (hh h.hd e3).elim
    · exact (hh h'.hd e3.symm).elim
    · exact ⟨rfl, e3⟩
  exact ⟨dashL_inj h.h1 h'.h1 e1, dashL_inj h.h2 h'.h2 e2, e4.1, mvW_inj h.hd h'.hd e4.2⟩
end Go.Proofs.Tryz

namespace Go.Proofs.Tryz
open Go Go.Am Go.RowKit Go.Dr
set_option maxRecDepth 100000

theorem err_zero {g : Nat → Int} {n : Int} : ∀ m : Nat, m ≤ 24 → errP g n m = 0 → ∀ k : Nat, 24 - m ≤ k → k < 24 → (k : Int) < n → g (k + 1) = 1
  | 0, _, _, k, h1, h2, _ => by omega
  | m + 1, hm, h, k, h1, h2, h3 => by
    unfold errP at h
    by_cases a1 : n ≤ ((24 - (m + 1) : Nat) : Int)
    · exfalso; omega
    rw [if_neg a1] at h
    by_cases a2 : g (24 - m) = 1
    · rw [if_pos a2] at h
      by_cases e : k = 23 - m
      · have : k + 1 = 24 - m := by omega
        rw [this]; exact a2
      · exact err_zero m (by omega) h k (by omega) h2 h3
    · rw [if_neg a2] at h; cases h
theorem hasI_mem {b : Int} {l : List Int} (h : hasI (b :: l) ≠ 0) : b ∈ l := by
  have h : (if b ∈ l then (1 : Int) else 0) ≠ 0 := h
  by_cases q : b ∈ l
  · exact q
  · rw [if_neg q] at h; exact absurd rfl h
theorem pit_bytes {y : Int → Int} {o n : Int} (hn : 0 ≤ n) (h : pitV y o n = 0) : n ≤ 24 ∧ ∀ k : Nat, (k : Int) < n → y (o + k) ∈ ([66, 67, 83, 70, 88, 72] : List Int) := by
  rw [pitV_R hn] at h
  by_cases h1 : n ≤ 24
  case neg => rw [if_neg h1] at h; cases h
  rw [if_pos h1] at h
  by_cases h2 : errP (gR y o n) n 24 = 0
  case neg => rw [if_neg h2] at h; cases h
  refine ⟨h1, fun k hk => ?_⟩
  have hg := err_zero 24 (Nat.le_refl _) h2 k (by omega) (by omega) hk
  unfold gR at hg
  by_cases g1 : gR y o n k = 1
  case neg => rw [if_neg g1] at hg; cases hg
  rw [if_pos g1] at hg
  by_cases g2 : h6 (y (o + (k : Int))) = 0
  · rw [if_pos g2] at hg; cases hg
  · exact hasI_mem g2
theorem ev_bytes {y : Int → Int} {o n : Int} (h : evOk y o n = true) : n = 0 ∨ n = 1 ∧ y (o + 0) ∈ ([75, 87, 72, 73, 88, 78, 89] : List Int) := by
  unfold evOk at h
  rw [decide_eq_true_eq] at h
  rcases h with h | ⟨h1, h2⟩
  · exact .inl h
  · exact .inr ⟨h1, hasI_mem (by rw [h2]; decide)⟩
theorem strL_mem {y : Int → Int} {o n : Int} {b : UInt8} (h : b ∈ strL y o n) : ∃ k : Nat, (k : Int) < n ∧ b = UInt8.ofNat (y (o + (k : Int))).toNat := by
  unfold strL at h
  obtain ⟨k, hk, rfl⟩ := List.mem_map.1 h
  exact ⟨k, by have := List.mem_range.1 hk; omega, rfl⟩

theorem wayR_zero {ρ : Env} {d : Int → DT} : ∀ l : List Int, (wayR d l).eval ρ = 0 → ∃ c ∈ l, mBy.val ρ = c ∧ (d c).eval ρ = 0
  | [], h => by unfold wayR at h; rw [ev_lf'] at h; cases h
  | c :: l, h => by
    unfold wayR at h
    rw [ev_eq, val_L'] at h
    by_cases q : mBy.val ρ = c
    · rw [if_pos q] at h
      exact ⟨c, by simp, q, h⟩
    · rw [if_neg q] at h
      obtain ⟨c', h1, h2, h3⟩ := wayR_zero l h
      exact ⟨c', by simp [h1], h2, h3⟩
/-- The letter of a valid move; a safe one goes on. -/
theorem mvV_way {fr t0 x so sn bo bn : Int} {y t : Int → Int} (h : mvV fr t0 x y so sn t bo bn = 0) : sn = 1 ∧ (x = 0 → y (so + 0) ∈ ([98, 97, 115, 112, 107, 116, 111] : List Int) ∧ fr < t0) ∧ (x ≠ 0 → y (so + 0) ∈ ([102, 103, 99, 100, 107, 110, 121] : List Int)) := by
  have hs := mvV_sn h
  obtain ⟨⟨h1, h2⟩, ⟨h3, h4⟩, -⟩ := mvV_zero h
  unfold mvV moveR range34 at h
  simp only [ev_le, ev_lf', val_L', mv_fr, mv_to] at h
  rw [if_pos h1, if_pos h2, if_pos h3, if_pos h4, ev_eq, mv_sn, val_L', if_pos hs, ev_eq, mv_ou, val_L'] at h
  refine ⟨hs, fun hx => ?_, fun hx => ?_⟩
  · rw [if_pos hx] at h
    obtain ⟨c, hc, e1, e2⟩ := wayR_zero _ h
    rw [mv_by] at e1
    refine ⟨by rw [e1]; exact hc, ?_⟩
    unfold safeR at e2
    rw [ev_le, mv_to, mv_fr, ev_lf'] at e2
    by_cases q : t0 ≤ fr
    · rw [if_pos q] at e2; cases e2
    · omega
  · rw [if_neg hx] at h
    obtain ⟨c, hc, e1, -⟩ := wayR_zero _ h
    rw [mv_by] at e1
    rw [e1]; exact hc

section
variable {x o n : Int} {t : Int → Int}
theorem loop_ne : ∀ m : Nat, m ≤ 9 → (tchLoop m).eval (envV [x, o, n] (fT t)) = 0 → ∀ j : Nat, 9 - m ≤ j + 1 → j + 1 < 9 → ((j + 1 : Nat) : Int) < n → t (o + (j : Int)) ≠ t (o + ((j + 1 : Nat) : Int))
  | 0, _, _, j, h1, h2, _ => by omega
  | m + 1, hm, h, j, h1, h2, h3 => by
    unfold tchLoop at h
    simp only [ev_le, ev_lf', val_L', tch_tn, tch_at] at h
    by_cases a1 : n ≤ ((8 - m : Nat) : Int)
    · exfalso; omega
    rw [if_neg a1] at h
    by_cases a2 : 1 ≤ t (o + ((8 - m : Nat) : Int))
    case neg => rw [if_neg a2] at h; cases h
    by_cases a3 : t (o + ((8 - m : Nat) : Int)) ≤ 9
    case neg => rw [if_pos a2, if_neg a3] at h; cases h
    rw [if_pos a2, if_pos a3] at h
    cases hq : 8 - m with
    | zero =>
      rw [hq] at h
      exact loop_ne m (by omega) h j (by omega) h2 h3
    | succ i =>
      rw [hq] at h
      simp only [ev_eq, ev_lf', tch_at] at h
      by_cases a4 : t (o + (i : Int)) = t (o + ((i + 1 : Nat) : Int))
      · rw [if_pos a4] at h; cases h
      · rw [if_neg a4] at h
        by_cases e : j = i
        · subst e; exact a4
        · exact loop_ne m (by omega) h j (by omega) h2 h3
theorem tchV_ne (h : tchV x t o n = 0) : ∀ j : Nat, ((j + 1 : Nat) : Int) < n → t (o + (j : Int)) ≠ t (o + ((j + 1 : Nat) : Int)) := by
  have h9 := (tchV_zero h).1
  unfold tchV tchT at h
  simp only [ev_le, ev_eq, ev_lf', val_L', tch_tn, tch_to] at h
  rw [if_pos h9] at h
  have fin : (tchLoop 9).eval (envV [x, o, n] (fT t)) = 0 → ∀ j : Nat, ((j + 1 : Nat) : Int) < n → t (o + (j : Int)) ≠ t (o + ((j + 1 : Nat) : Int)) := fun hl j hj => loop_ne 9 (Nat.le_refl _) hl j (by omega) (by omega) hj
  by_cases a2 : x = 0
  · rw [if_pos a2] at h; exact fin h
  · rw [if_neg a2] at h
    by_cases a3 : n = 0
    · rw [if_pos a3] at h; cases h
    · rw [if_neg a3] at h; exact fin h
end

/-- All that is used of a valid play. -/
structure FullP (y0 : Int → Int) (yo yn : Int) (y1 : Int → Int) (eo en : Int) (d : Nat → MvD) (n : Nat) : Prop where
  v : ValP d n
  w : WordP (strL y0 yo yn) (strL y1 eo en) d n
  go : ∀ i, i < n → (d i).x = 0 → (d i).fr < (d i).to
  ne : ∀ i, i < n → ∀ j : Nat, ((j + 1 : Nat) : Int) < (d i).bn → (d i).t ((d i).bo + (j : Int)) ≠ (d i).t ((d i).bo + ((j + 1 : Nat) : Int))
  yn : 0 ≤ yn ∧ yn ≤ 24
  en : 0 ≤ en ∧ en ≤ 1
theorem full_of {y0 y1 : Int → Int} {yo yn eo en : Int} {d : Nat → MvD} {n : Nat} (h : plV y0 yo yn y1 eo en d n = 0) (hb : ∀ i, i < n → 0 ≤ (d i).bn) (hy : 0 ≤ yn) (he : 0 ≤ en) : FullP y0 yo yn y1 eo en d n := by
  have hv := valP_of h hb
  have hn4 := hv.v.n4
  have hprn := prn_of h hb
  unfold plV at h
  by_cases p1 : pitV y0 yo yn = 0
  case neg => rw [if_neg p1] at h; exact absurd h p1
  rw [if_pos p1] at h
  by_cases p2 : evOk y1 eo en = true
  case neg => rw [if_neg p2] at h; cases h
  rw [if_pos p2, if_pos hn4] at h
  have hc : ∀ i, i < n → (d i).check = 0 := fun i hi => mvs_zero d n 0 h i (Nat.zero_le _) (by omega)
  obtain ⟨q1, q2⟩ := pit_bytes hy p1
  have q3 := ev_bytes p2
  have nb : ∀ {z : Int} {l : List Int}, z ∈ l → (∀ u ∈ l, 46 ≤ u ∧ u ≤ 127) → UInt8.ofNat z.toNat ≠ 32 ∧ UInt8.ofNat z.toNat ≠ 45 := fun {z l} hz hl => by
    have := hl z hz
    constructor <;> (intro e; have := congrArg UInt8.toNat e; rw [UInt8.toNat_ofNat'] at this; have h32 : (32 : UInt8).toNat = 32 := rfl; have h45 : (45 : UInt8).toNat = 45 := rfl; omega)
  refine ⟨hv, ⟨fun b hb => ?_, fun b hb => ?_, fun i hi => ⟨(hprn.hd i hi).1, (mvV_way (hc i hi)).1, fun b hb => ?_⟩⟩, fun i hi hx => ((mvV_way (hc i hi)).2.1 hx).2, fun i hi => tchV_ne (mvV_zero (hc i hi)).2.2, ⟨hy, q1⟩, ⟨he, by rcases q3 with q | q <;> omega⟩⟩
  · obtain ⟨k, hk, rfl⟩ := strL_mem hb
    exact nb (q2 k hk) (by decide)
  · obtain ⟨k, hk, rfl⟩ := strL_mem hb
    rcases q3 with q | ⟨q, q4⟩
    · omega
    · have : k = 0 := by omega
      subst this
      exact nb q4 (by decide)
  · obtain ⟨k, hk, rfl⟩ := strL_mem hb
    obtain ⟨w1, w2, w3⟩ := mvV_way (hc i hi)
    have : k = 0 := by omega
    subst this
    by_cases hx : (d i).x = 0
    · exact (nb (w2 hx).1 (by decide)).1
    · exact (nb (w3 hx) (by decide)).1
end Go.Proofs.Tryz

namespace Go.Proofs.Tryz
open Go Go.Am Go.RowKit Go.Dr
set_option maxRecDepth 100000

/-- Two moves with the same data. -/
structure EqM (m m' : MvD) : Prop where
  fr : m.fr = m'.fr
  t0 : m.to = m'.to
  x : m.x = 0 ↔ m'.x = 0
  y : m.y = m'.y
  so : m.so = m'.so
  sn : m.sn = m'.sn
  bn : m.bn = m'.bn
  t : ∀ j : Nat, (j : Int) < m.bn → m.t (m.bo + (j : Int)) = m'.t (m'.bo + (j : Int))
theorem EqM.refl (m : MvD) : EqM m m := ⟨rfl, rfl, Iff.rfl, rfl, rfl, rfl, rfl, fun _ _ => rfl⟩
theorem EqM.trans {a b c : MvD} (h : EqM a b) (k : EqM b c) : EqM a c :=
  ⟨h.fr.trans k.fr, h.t0.trans k.t0, h.x.trans k.x, h.y.trans k.y, h.so.trans k.so, h.sn.trans k.sn, h.bn.trans k.bn, fun j hj => (h.t j hj).trans (k.t j (by rw [← h.bn]; exact hj))⟩
theorem EqM.symm {a b : MvD} (h : EqM a b) : EqM b a :=
  ⟨h.fr.symm, h.t0.symm, h.x.symm, h.y.symm, h.so.symm, h.sn.symm, h.bn.symm, fun j hj => (h.t j (by rw [h.bn]; exact hj)).symm⟩
theorem EqM.tchs {a b : MvD} (h : EqM a b) : tchs a = tchs b := by
  unfold Tryz.tchs
  rw [← h.bn]
  apply List.ext_getElem?
  intro j
  by_cases hj : j < a.bn.toNat
  · rw [intsL_get hj, intsL_get hj, h.t j (by omega)]
  · rw [List.getElem?_eq_none (by rw [length_intsL]; omega), List.getElem?_eq_none (by rw [length_intsL]; omega)]
theorem EqM.same {a b : MvD} (h : EqM a b) : sameMD a b = true := by
  unfold sameMD
  rw [h.fr, h.t0, h.y, h.so, h.sn, h.tchs]
  have : decide (a.x ≠ 0) = decide (b.x ≠ 0) := by
    by_cases q : b.x = 0
    · simp [q, h.x.2 q]
    · have ha : ¬ a.x = 0 := fun e => q (h.x.1 e)
      simp [q, ha]
  rw [this]; simp
theorem EqM.run {a b : MvD} (h : EqM a b) : runQ a = runQ b := by
  unfold runQ
  rw [h.t0]
  by_cases q : b.x = 0
  · simp [q, h.x.2 q]
  · have ha : ¬ a.x = 0 := fun e => q (h.x.1 e)
    simp [q, ha]
theorem EqM.out {a b : MvD} (h : EqM a b) : outQ a = outQ b := by
  unfold outQ
  by_cases q : b.x = 0
  · simp [q, h.x.2 q]
  · have ha : ¬ a.x = 0 := fun e => q (h.x.1 e)
    simp [q, ha]

/-! ### the check asks no more than that -/
inductive SameD (ρ ρ' : Env) : DT → Prop
  | leaf (e : E) (h : e.val ρ = e.val ρ') : SameD ρ ρ' (.leaf e)
  | node (t : Tst) (a b : DT) (h : t.holds ρ = t.holds ρ') (h1 : SameD ρ ρ' a) (h2 : SameD ρ ρ' b) : SameD ρ ρ' (.node t a b)
theorem SameD.eval {ρ ρ' : Env} {d : DT} (h : SameD ρ ρ' d) : d.eval ρ = d.eval ρ' := by
  induction h with
  | leaf e h => rw [ev_leaf, ev_leaf, h]
  | node t a b h _ _ i1 i2 => unfold DT.eval; rw [h, i1, i2]
theorem tchV_eq {x x' o o' n : Int} {t t' : Int → Int} (hx : x = 0 ↔ x' = 0) (h : ∀ j : Nat, (j : Int) < n → t (o + (j : Int)) = t' (o' + (j : Int))) : tchV x t o n = tchV x' t' o' n := by
  have hl : ∀ m : Nat, m ≤ 9 → (tchLoop m).eval (envV [x, o, n] (fT t)) = (tchLoop m).eval (envV [x', o', n] (fT t')) := fun m => by
    induction m with
    | zero => intro _; rfl
    | succ m ih =>
      intro hm
      unfold tchLoop
      have hk8 : 8 - m ≤ 8 := by omega
      generalize 8 - m = k at hk8
      simp only [ev_le, ev_lf', val_L', tch_tn, tch_at]
      by_cases a1 : n ≤ (k : Int)
      · rw [if_pos a1, if_pos a1]
      · rw [if_neg a1, if_neg a1, h k (by omega)]
        cases k with
        | zero => simp only [ih (by omega)]
        | succ i =>
          simp only [ev_eq, ev_lf', tch_at]
          rw [h i (by omega), h (i + 1) (by omega), ih (by omega)]
  unfold tchV tchT
  simp only [ev_le, ev_eq, ev_lf', val_L', tch_tn, tch_to]
  rw [hl 9 (Nat.le_refl _)]
  by_cases q : x = 0
  · rw [if_pos q, if_pos (hx.1 q)]
  · rw [if_neg q, if_neg (fun e => q (hx.2 e))]

section
variable {fr t0 x x' so sn bo bn bo' : Int} {y t t' : Int → Int}
theorem mvV_eq (hx : x = 0 ↔ x' = 0) (ht : ∀ j : Nat, (j : Int) < bn → t (bo + (j : Int)) = t' (bo' + (j : Int))) : mvV fr t0 x y so sn t bo bn = mvV fr t0 x' y so sn t' bo' bn := by
  have hT : SameD (envV [fr, t0, x, so, sn, bo, bn] (fM y t)) (envV [fr, t0, x', so, sn, bo', bn] (fM y t')) (.leaf mTch) := .leaf _ (by rw [mv_tch, mv_tch]; exact tchV_eq hx ht)
  have hf : ∀ n, SameD (envV [fr, t0, x, so, sn, bo, bn] (fM y t)) (envV [fr, t0, x', so, sn, bo', bn] (fM y t')) (dLf n) := fun n => .leaf _ rfl
  have hg : ∀ q : Tst, q.holds (envV [fr, t0, x, so, sn, bo, bn] (fM y t)) = q.holds (envV [fr, t0, x', so, sn, bo', bn] (fM y t')) → SameD (envV [fr, t0, x, so, sn, bo, bn] (fM y t)) (envV [fr, t0, x', so, sn, bo', bn] (fM y t')) (goodD q) := fun q h => .node _ _ _ h hT (hf 15)
  have hs : ∀ c, SameD (envV [fr, t0, x, so, sn, bo, bn] (fM y t)) (envV [fr, t0, x', so, sn, bo', bn] (fM y t')) (safeR c) := fun c => by
    unfold safeR
    refine .node _ _ _ rfl (hf 15) (.node _ _ _ rfl ?_ hT)
    split
    · exact hf 15
    · exact hT
  have ho : ∀ c, SameD (envV [fr, t0, x, so, sn, bo, bn] (fM y t)) (envV [fr, t0, x', so, sn, bo', bn] (fM y t')) (outsR c) := fun c => by
    unfold outsR
    split
    · exact .node _ _ _ rfl (hf 15) (hg _ rfl)
    split
    · exact hg _ rfl
    split
    · exact .node _ _ _ rfl (hf 15) (.node _ _ _ rfl (hg _ rfl) hT)
    split
    · exact hg _ rfl
    · exact .node _ _ _ rfl (hg _ rfl) (hf 15)
  have hw : ∀ (d : Int → DT), (∀ c, SameD (envV [fr, t0, x, so, sn, bo, bn] (fM y t)) (envV [fr, t0, x', so, sn, bo', bn] (fM y t')) (d c)) → ∀ l, SameD (envV [fr, t0, x, so, sn, bo, bn] (fM y t)) (envV [fr, t0, x', so, sn, bo', bn] (fM y t')) (wayR d l) := fun d hd l => by
    induction l with
    | nil => exact hf 13
    | cons c l ih => exact .node _ _ _ rfl (hd c) ih
  unfold mvV moveR range34
  refine SameD.eval ?_
  refine .node _ _ _ rfl (.node _ _ _ rfl (.node _ _ _ rfl (.node _ _ _ rfl (.node _ _ _ rfl (.node _ _ _ ?_ (hw _ hs _) (hw _ ho _)) (hf 13)) (hf 3)) (hf 3)) (hf 3)) (hf 3)
  show (mOu.val _ == (L 0).val _) = (mOu.val _ == (L 0).val _)
  rw [mv_ou, mv_ou, val_L', val_L']
  by_cases q : x = 0
  · rw [q, hx.1 q]
  · have q' : ¬ x' = 0 := fun e => q (hx.2 e)
    rw [beq_eq_false_iff_ne.2 q, beq_eq_false_iff_ne.2 q']
end
theorem EqM.check {a b : MvD} (h : EqM a b) : a.check = b.check := by
  unfold MvD.check
  rw [mvV_eq h.x h.t, h.fr, h.t0, h.y, h.so, h.sn, h.bn]
theorem mvsV_eq {d d' : Nat → MvD} : ∀ (n i : Nat), (∀ j, j < i + n → EqM (d j) (d' j)) → mvsV d n i = mvsV d' n i
  | 0, _, _ => rfl
  | n + 1, i, h => by
    unfold mvsV
    rw [(h i (by omega)).check, (h i (by omega)).fr, (h (i - 1) (by omega)).fr, mvsV_eq n (i + 1) fun j hj => h j (by omega)]
theorem plV_eq {y0 y1 : Int → Int} {yo yn eo en : Int} {d d' : Nat → MvD} {n : Nat} (h : ∀ j, j < n → EqM (d j) (d' j)) : plV y0 yo yn y1 eo en d n = plV y0 yo yn y1 eo en d' n := by
  unfold plV
  rw [mvsV_eq n 0 fun j hj => h j (by omega)]
end Go.Proofs.Tryz

namespace Go.Proofs.Tryz
open Go Go.Am Go.RowKit Go.Dr
set_option maxRecDepth 100000

/-- No two neighbours of a move's touches are the same. -/
def NeM (m : MvD) : Prop := 0 ≤ m.bn ∧ ∀ j : Nat, ((j + 1 : Nat) : Int) < m.bn → m.t (m.bo + (j : Int)) ≠ m.t (m.bo + ((j + 1 : Nat) : Int))
theorem plT_ne {m : MvD} (h : NeM m) : plT m = tchs m := by
  unfold plT
  refine Lib.compact_all _ fun j hj => ?_
  unfold tchs at hj ⊢
  rw [length_intsL] at hj
  cases j with
  | zero => simp [Lib.keeps]
  | succ j =>
    refine Lib.keeps_pos ?_
    rw [Nat.add_sub_cancel, arr_get hj, arr_get (by omega)]
    exact fun e => h.2 j (by omega) e.symm
theorem plain_eq {m : MvD} (h : NeM m) : EqM (plainM m) m := by
  have hp := plT_ne h
  have hl : (plT m).length = m.bn.toNat := by rw [hp, tchs, length_intsL]
  refine ⟨rfl, rfl, Iff.rfl, rfl, rfl, rfl, ?_, fun j hj => ?_⟩
  · show (((plT m).length : Nat) : Int) = m.bn
    have := h.1
    omega
  · have hj' : j < m.bn.toNat := by
      have hj2 : (j : Int) < (((plT m).length : Nat) : Int) := hj
      omega
    show tl (plT m) (0 + (j : Int)) = _
    unfold tl
    rw [show (0 + (j : Int)).toNat = j by omega, hp, tchs, intsL_get hj']
    rfl
theorem FullP.ne' {y0 y1 : Int → Int} {yo yn eo en : Int} {d : Nat → MvD} {n : Nat} (h : FullP y0 yo yn y1 eo en d n) {i : Nat} (hi : i < n) : NeM (d i) := ⟨(h.v.v.bn i hi).1, h.ne i hi⟩
theorem dOf_map {f : Nat → MvD} {n i : Nat} (hi : i < n) : dOf ((List.range n).map f) i = f i := by
  unfold dOf
  simp [hi]
theorem nodup_desc {d : Nat → MvD} {n : Nat} (h : ∀ i j, i < j → j < n → (d j).fr < (d i).fr) : ¬ DupD d n := fun ⟨j, i, h1, h2, h3⟩ => by have := h j i h1 h2; omega
theorem srt_desc_id {d : Nat → MvD} {n : Nat} (h : ∀ i j, i < j → j < n → (d j).fr < (d i).fr) : srtI d n = List.range n := by
  refine (srt_uniq (List.Perm.refl _) ?_ (nodup_desc h)).symm
  rw [List.pairwise_iff_getElem]
  intro i j hi hj hij
  simp only [List.getElem_range]
  have := h i j hij (by simpa using hj)
  omega
section
variable {y0 y1 : Int → Int} {yo yn eo en : Int} {d : Nat → MvD} {n : Nat}
theorem full_stay (h : FullP y0 yo yn y1 eo en d n) {i : Nat} (hi : i < n) : stayD (d i) = false := by
  unfold stayD
  by_cases hx : (d i).x = 0
  · have := h.go i hi hx
    have : ¬ (d i).fr = (d i).to := by omega
    simp [this]
  · simp [hx]
theorem canL_valid (h : FullP y0 yo yn y1 eo en d n) : canL d n = (List.range n).map fun i => plainM (d i) := by
  unfold canL
  rw [srt_desc_id h.v.desc]
  refine List.filter_eq_self.2 fun m hm => ?_
  obtain ⟨i, hi, rfl⟩ := List.mem_map.1 hm
  have : stayD (plainM (d i)) = stayD (d i) := rfl
  rw [this, full_stay h (List.mem_range.1 hi)]
  rfl
theorem big_valid (h : FullP y0 yo yn y1 eo en d n) : ¬ BigC yn d n := by
  have h4 := h.v.v.n4
  have hy := h.yn.2
  rintro (q | q | q)
  · omega
  · omega
  · have hno : ∀ k, k ≤ n → anyK (fun i => decide (36 < (d i).bn)) k = false := fun k => by
      induction k with
      | zero => intro _; rfl
      | succ k ih =>
        intro hk
        have := (h.v.v.bn k (by omega)).2
        rw [anyK, ih (by omega), Bool.false_or, decide_eq_false_iff_not]
        omega
    rw [hno n (Nat.le_refl _)] at q
    cases q
theorem canL_len (h : FullP y0 yo yn y1 eo en d n) : (canL d n).length = n := by rw [canL_valid h]; simp
theorem canL_eq (h : FullP y0 yo yn y1 eo en d n) {i : Nat} (hi : i < n) : EqM (dOf (canL d n) i) (d i) := by
  rw [canL_valid h, dOf_map hi]
  exact plain_eq (h.ne' hi)
theorem canE_valid (hp : plV y0 yo yn y1 eo en d n = 0) (h : FullP y0 yo yn y1 eo en d n) : canE y0 yo yn y1 eo en d n = 0 := by
  unfold canE
  rw [if_neg (big_valid h), if_neg (nodup_desc h.v.desc), canL_len h]
  rw [plV_eq fun j hj => canL_eq h hj]
  exact hp
theorem canP_valid (s1 s2 : ByteArray) (lx : Bool) (hp : plV y0 yo yn y1 eo en d n = 0) (h : FullP y0 yo yn y1 eo en d n) : canP s1 s2 lx y0 yo yn y1 eo en d n = ⟨s1, s2, lateC lx (canL d n), canL d n⟩ := by
  unfold canP
  rw [if_pos (canE_valid hp h)]
end
/-- Flags of rows with the same moves. -/
theorem any_eq {q : MvD → Bool} (hq : ∀ a b, EqM a b → q a = q b) {L M : List MvD} (hl : L.length = M.length) (h : ∀ i, i < L.length → EqM (dOf L i) (dOf M i)) : L.any q = M.any q := by
  rw [← anyK_all, ← anyK_all, ← hl]
  have : ∀ k, k ≤ L.length → anyK (fun i => q (dOf L i)) k = anyK (fun i => q (dOf M i)) k := fun k => by
    induction k with
    | zero => intro _; rfl
    | succ k ih => intro hk; rw [anyK, anyK, ih (by omega), hq _ _ (h k (by omega))]
  exact this _ (Nat.le_refl _)
theorem late_eq (lx : Bool) {L M : List MvD} (hl : L.length = M.length) (h : ∀ i, i < L.length → EqM (dOf L i) (dOf M i)) : lateC lx L = lateC lx M := by
  unfold lateC
  rw [any_eq (fun _ _ e => EqM.run e) hl h, any_eq (fun _ _ e => EqM.out e) hl h]
theorem late_late (lx : Bool) (L : List MvD) : lateC (lateC lx L) L = lateC lx L := by
  unfold lateC
  cases lx <;> cases L.any runQ <;> cases L.any outQ <;> rfl
theorem same_eqm {d d' : Nat → MvD} {n : Nat} (h : ∀ i, i < n → EqM (d i) (d' i)) : sameN d n d' n = true := by
  rw [allK_same]
  have : ∀ k, k ≤ n → allK (fun i => sameMD (d i) (d' i)) k = true := fun k => by
    induction k with
    | zero => intro _; rfl
    | succ k ih => intro hk; rw [allK, ih (by omega), (h k (by omega)).same]; rfl
  exact this n (Nat.le_refl _)
end Go.Proofs.Tryz

namespace Go.Proofs.Tryz
open Go Go.Am Go.RowKit Go.Dr
set_option maxRecDepth 100000

def dupL : List Int → List Int
  | [] => []
  | f :: l => f :: f :: dupL l
theorem dupL_get : ∀ (l : List Int) (k : Nat), (dupL l)[2 * k]? = l[k]? ∧ (dupL l)[2 * k + 1]? = l[k]?
  | [], k => by simp [dupL]
  | f :: l, 0 => by simp [dupL]
  | f :: l, k + 1 => by
    have := dupL_get l k
    rw [dupL, show 2 * (k + 1) = 2 * k + 1 + 1 by omega]
    simpa using this
theorem length_dupL : ∀ l : List Int, (dupL l).length = 2 * l.length
  | [] => rfl
  | f :: l => by rw [dupL]; simp [length_dupL l]; omega
theorem dupL_append (l : List Int) (f : Int) : dupL (l ++ [f]) = dupL l ++ [f, f] := by
  induction l with
  | nil => rfl
  | cons a l ih => simp [dupL, ih]
theorem compact_dup {l : List Int} (h : ∀ j, j + 1 < l.length → l[j]? ≠ l[j + 1]?) : Lib.compact (dupL l) = l := by
  have hg : ∀ k, k < (dupL l).length → (dupL l).toArray[k]! = ((dupL l)[k]?).getD 0 := fun k hk => by
    rw [getElem!_pos _ _ (by simpa using hk)]
    simp [List.getElem?_eq_getElem hk]
  have hl := length_dupL l
  have step : ∀ k, k ≤ l.length → Lib.compactUpTo (dupL l).toArray (2 * k) = l.take k := fun k => by
    induction k with
    | zero => intro _; rfl
    | succ k ih =>
      intro hk
      obtain ⟨x, hx⟩ : ∃ x, l[k]? = some x := ⟨_, List.getElem?_eq_getElem (by omega)⟩
      obtain ⟨d0, d1⟩ := dupL_get l k
      have k1 : Lib.keeps (dupL l).toArray (2 * k) = true := by
        cases k with
        | zero => simp [Lib.keeps]
        | succ p =>
          refine Lib.keeps_pos ?_
          obtain ⟨e0, e1⟩ := dupL_get l p
          rw [hg _ (by omega), hg _ (by omega), d0, show 2 * (p + 1) - 1 = 2 * p + 1 by omega, e1, hx]
          intro q
          refine h p (by omega) ?_
          rw [hx, List.getElem?_eq_getElem (show p < l.length by omega)] at *
          simpa using q.symm
      have k2 : Lib.keeps (dupL l).toArray (2 * k + 1) = false := by
        refine Lib.keeps_neg (by omega) ?_
        rw [hg _ (by omega), hg _ (by omega), d1, Nat.add_sub_cancel, d0]
      rw [show 2 * (k + 1) = 2 * k + 1 + 1 by omega, Lib.compactUpTo_succ, Lib.compactUpTo_succ, k1, k2, ih (by omega), hg _ (by omega), d0, hx, List.take_add_one, hx]
      simp
  unfold Lib.compact
  rw [hl, step _ (Nat.le_refl _), List.take_length]

/-- The move with each touch written twice. -/
def dblM (m : MvD) : MvD := { m with t := tl (dupL (tchs m)), bo := 0, bn := ((dupL (tchs m)).length : Nat) }
/-- A runner who stays. -/
def stayM (f : Int) : MvD := ⟨f, f, 0, fun _ => 116, 0, 1, fun _ => 0, 0, 0⟩
theorem tchs_dblM (m : MvD) : tchs (dblM m) = dupL (tchs m) := by
  unfold dblM
  show intsL (tl (dupL (tchs m))) 0 (((dupL (tchs m)).length : Nat) : Int).toNat = _
  rw [Int.toNat_natCast]
  exact intsL_tl _
theorem ne_get {m : MvD} (h : NeM m) : ∀ j, j + 1 < (tchs m).length → (tchs m)[j]? ≠ (tchs m)[j + 1]? := fun j hj => by
  unfold tchs at hj ⊢
  rw [length_intsL] at hj
  rw [intsL_get hj, intsL_get (by omega)]
  intro e
  exact h.2 j (by omega) (Option.some.inj e)
theorem plain_dbl {m : MvD} (h : NeM m) : EqM (plainM (dblM m)) m := by
  have hp : plT (dblM m) = tchs m := by unfold plT; rw [tchs_dblM, compact_dup (ne_get h)]
  have hl : (plT (dblM m)).length = m.bn.toNat := by rw [hp, tchs, length_intsL]
  refine ⟨rfl, rfl, Iff.rfl, rfl, rfl, rfl, ?_, fun j hj => ?_⟩
  · show (((plT (dblM m)).length : Nat) : Int) = m.bn
    have := h.1
    omega
  · have hj' : j < m.bn.toNat := by
      have hj2 : (j : Int) < (((plT (dblM m)).length : Nat) : Int) := hj
      omega
    show tl (plT (dblM m)) (0 + (j : Int)) = _
    unfold tl
    rw [show (0 + (j : Int)).toNat = j by omega, hp, tchs, intsL_get hj']
    rfl
theorem stayM_stays {f : Int} (h1 : 1 ≤ f) (h3 : f ≤ 3) : stayD (stayM f) = true := by
  unfold stayD stayM
  simp [h1, h3, letL]

/-- The moves of the loose play. -/
def looseL (d : Nat → MvD) (σ : List Nat) (ex : List MvD) : List MvD := (σ.map fun i => dblM (d i)) ++ ex
/-- The runner who stays, if there is one. -/
def ExOk (d : Nat → MvD) (n : Nat) (ex : List MvD) : Prop := ex = [] ∨ ∃ f, ex = [stayM f] ∧ 1 ≤ f ∧ f ≤ 3 ∧ ∀ i, i < n → (d i).fr ≠ f
theorem map_dOf (L : List MvD) : (List.range L.length).map (dOf L) = L := by
  apply List.ext_getElem?
  intro i
  by_cases hi : i < L.length
  · simp [hi, dOf]
  · rw [List.getElem?_eq_none (by simp; omega), List.getElem?_eq_none (by omega)]
section
variable {y0 y1 : Int → Int} {yo yn eo en : Int} {d : Nat → MvD} {n : Nat} {σ : List Nat} {ex : List MvD}
theorem canL_loose (h : FullP y0 yo yn y1 eo en d n) (hσ : σ.Perm (List.range n)) (hx : ExOk d n ex) : canL (dOf (looseL d σ ex)) (looseL d σ ex).length = (List.range n).map fun i => plainM (dblM (d i)) := by
  obtain ⟨L, hL⟩ : ∃ L, looseL d σ ex = L := ⟨_, rfl⟩
  rw [hL]
  have hS : ((srtI (dOf L) L.length).map (dOf L)).Perm L := by
    have := (srt_perm (dOf L) L.length).map (dOf L)
    rw [map_dOf] at this
    exact this
  have hD : ((srtI (dOf L) L.length).map (dOf L)).Pairwise (fun a b => b.fr ≤ a.fr) := by
    rw [List.pairwise_map]
    exact srt_desc _ _
  have e1 : canL (dOf L) L.length = (((srtI (dOf L) L.length).map (dOf L)).filter fun m => !stayD m).map plainM := by
    unfold canL
    have : ((srtI (dOf L) L.length).map fun i => plainM (dOf L i)) = ((srtI (dOf L) L.length).map (dOf L)).map plainM := by rw [List.map_map]; rfl
    rw [this, List.filter_map]
    rfl
  rw [e1]
  generalize (srtI (dOf L) L.length).map (dOf L) = S at hS hD
  have hF : (S.filter fun m => !stayD m).Perm (σ.map fun i => dblM (d i)) := by
    have := hS.filter (fun m => !stayD m)
    refine this.trans ?_
    rw [← hL]
    unfold looseL
    rw [List.filter_append]
    have a1 : (σ.map fun i => dblM (d i)).filter (fun m => !stayD m) = σ.map fun i => dblM (d i) := List.filter_eq_self.2 fun m hm => by
      obtain ⟨i, hi, rfl⟩ := List.mem_map.1 hm
      have : stayD (dblM (d i)) = stayD (d i) := rfl
      rw [this, full_stay h (List.mem_range.1 (hσ.mem_iff.1 hi))]; rfl
    have a2 : ex.filter (fun m => !stayD m) = [] := by
      rcases hx with rfl | ⟨f, rfl, f1, f3, -⟩
      · rfl
      · simp [stayM_stays f1 f3]
    rw [a1, a2, List.append_nil]
  have hG : (S.filter fun m => !stayD m).Perm ((List.range n).map fun i => dblM (d i)) := hF.trans (hσ.map _)
  have hFp : (S.filter fun m => !stayD m).Pairwise (fun a b => b.fr ≤ a.fr) := hD.filter _
  have hGp : ((List.range n).map fun i => dblM (d i)).Pairwise (fun a b => b.fr ≤ a.fr) := by
    rw [List.pairwise_map, List.pairwise_iff_getElem]
    intro i j hi hj hij
    simp only [List.getElem_range]
    have := h.v.desc i j hij (by simpa using hj)
    show (d j).fr ≤ (d i).fr
    omega
  have hE : (S.filter fun m => !stayD m) = (List.range n).map fun i => dblM (d i) := by
    refine List.Perm.eq_of_pairwise (le := fun a b => b.fr ≤ a.fr) ?_ hFp hGp hG
    intro a b ha hb q1 q2
    obtain ⟨i, hi, rfl⟩ := List.mem_map.1 (hG.mem_iff.1 ha)
    obtain ⟨j, hj, rfl⟩ := List.mem_map.1 hb
    have hi := List.mem_range.1 hi
    have hj := List.mem_range.1 hj
    have q1 : (d j).fr ≤ (d i).fr := q1
    have q2 : (d i).fr ≤ (d j).fr := q2
    rcases Nat.lt_trichotomy i j with q | q | q
    · have := h.v.desc i j q hj; omega
    · rw [q]
    · have := h.v.desc j i q hi; omega
  rw [hE, List.map_map]
  rfl
end
end Go.Proofs.Tryz

namespace Go.Proofs.Tryz
open Go Go.Am Go.RowKit Go.Dr
set_option maxRecDepth 100000

section
variable {y0 y1 : Int → Int} {yo yn eo en : Int} {d : Nat → MvD} {n : Nat} {σ : List Nat} {ex : List MvD}
theorem loose_len (h : FullP y0 yo yn y1 eo en d n) (hσ : σ.Perm (List.range n)) (hx : ExOk d n ex) : (looseL d σ ex).length ≤ 4 := by
  have h4 := h.v.v.n4
  have hl : σ.length = n := by have := hσ.length_eq; simpa using this
  unfold looseL
  rw [List.length_append, List.length_map, hl]
  rcases hx with rfl | ⟨f, rfl, f1, f3, hf⟩
  · simpa using h4
  · by_cases q : n = 4
    · subst q
      exfalso
      have a := h.v.desc 0 1 (by omega) (by omega)
      have b := h.v.desc 1 2 (by omega) (by omega)
      have c := h.v.desc 2 3 (by omega) (by omega)
      have e0 := h.v.v.fr 0 (by omega)
      have e3 := h.v.v.fr 3 (by omega)
      have k0 := hf 0 (by omega)
      have k1 := hf 1 (by omega)
      have k2 := hf 2 (by omega)
      have k3 := hf 3 (by omega)
      omega
    · simp; omega
theorem loose_mem (hσ : σ.Perm (List.range n)) {m : MvD} (hm : m ∈ looseL d σ ex) : (∃ i, i < n ∧ m = dblM (d i)) ∨ m ∈ ex := by
  unfold looseL at hm
  rcases List.mem_append.1 hm with q | q
  · obtain ⟨i, hi, rfl⟩ := List.mem_map.1 q
    exact .inl ⟨i, List.mem_range.1 (hσ.mem_iff.1 hi), rfl⟩
  · exact .inr q
theorem loose_bn (h : FullP y0 yo yn y1 eo en d n) (hσ : σ.Perm (List.range n)) (hx : ExOk d n ex) {m : MvD} (hm : m ∈ looseL d σ ex) : 0 ≤ m.bn ∧ m.bn ≤ 18 := by
  rcases loose_mem hσ hm with ⟨i, hi, rfl⟩ | hm
  · have := h.v.v.bn i hi
    show 0 ≤ (((dupL (tchs (d i))).length : Nat) : Int) ∧ (((dupL (tchs (d i))).length : Nat) : Int) ≤ 18
    rw [length_dupL, tchs, length_intsL]
    omega
  · rcases hx with rfl | ⟨f, rfl, -⟩
    · cases hm
    · rw [List.mem_singleton] at hm
      subst hm
      exact ⟨Int.le_refl _, (by show (0 : Int) ≤ 18; decide)⟩
theorem dOf_mem {L : List MvD} {i : Nat} (hi : i < L.length) : dOf L i ∈ L := by
  unfold dOf
  rw [List.getElem?_eq_getElem hi]
  exact List.getElem_mem hi
theorem loose_nodup (h : FullP y0 yo yn y1 eo en d n) (hσ : σ.Perm (List.range n)) (hx : ExOk d n ex) : ¬ DupD (dOf (looseL d σ ex)) (looseL d σ ex).length := by
  have hP : (looseL d σ ex).Pairwise (fun a b => a.fr ≠ b.fr) := by
    unfold looseL
    rw [List.pairwise_append]
    refine ⟨?_, ?_, fun a ha b hb => ?_⟩
    · rw [List.pairwise_map]
      have hn := nodup_perm hσ
      refine List.Pairwise.imp_of_mem ?_ hn
      intro i j hi hj hij
      have hi := List.mem_range.1 (hσ.mem_iff.1 hi)
      have hj := List.mem_range.1 (hσ.mem_iff.1 hj)
      show (d i).fr ≠ (d j).fr
      rcases Nat.lt_or_gt_of_ne hij with q | q
      · have := h.v.desc i j q hj; omega
      · have := h.v.desc j i q hi; omega
    · rcases hx with rfl | ⟨f, rfl, -⟩
      · exact .nil
      · exact List.pairwise_singleton _ _
    · obtain ⟨i, hi, rfl⟩ := List.mem_map.1 ha
      have hi := List.mem_range.1 (hσ.mem_iff.1 hi)
      rcases hx with rfl | ⟨f, rfl, -, -, hf⟩
      · cases hb
      · rw [List.mem_singleton] at hb
        subst hb
        exact hf i hi
  rintro ⟨j, i, hji, hi, he⟩
  have := List.pairwise_iff_getElem.1 hP j i (by omega) hi hji
  unfold dOf at he
  rw [List.getElem?_eq_getElem (by omega), List.getElem?_eq_getElem hi] at he
  exact this he
theorem canL_loose_eq (h : FullP y0 yo yn y1 eo en d n) (hσ : σ.Perm (List.range n)) (hx : ExOk d n ex) {i : Nat} (hi : i < n) : EqM (dOf (canL (dOf (looseL d σ ex)) (looseL d σ ex).length) i) (d i) := by
  rw [canL_loose h hσ hx, dOf_map hi]
  exact plain_dbl (h.ne' hi)
theorem canL_loose_len (h : FullP y0 yo yn y1 eo en d n) (hσ : σ.Perm (List.range n)) (hx : ExOk d n ex) : (canL (dOf (looseL d σ ex)) (looseL d σ ex).length).length = n := by
  rw [canL_loose h hσ hx]; simp
theorem canE_loose (hp : plV y0 yo yn y1 eo en d n = 0) (h : FullP y0 yo yn y1 eo en d n) (hσ : σ.Perm (List.range n)) (hx : ExOk d n ex) : canE y0 yo yn y1 eo en (dOf (looseL d σ ex)) (looseL d σ ex).length = 0 := by
  have hl := loose_len h hσ hx
  have hbig : ¬ BigC yn (dOf (looseL d σ ex)) (looseL d σ ex).length := by
    have hy := h.yn.2
    rintro (q | q | q)
    · omega
    · omega
    · have hno : ∀ k, k ≤ (looseL d σ ex).length → anyK (fun i => decide (36 < (dOf (looseL d σ ex) i).bn)) k = false := fun k => by
        induction k with
        | zero => intro _; rfl
        | succ k ih =>
          intro hk
          have := (loose_bn h hσ hx (dOf_mem (show k < (looseL d σ ex).length by omega))).2
          rw [anyK, ih (by omega), Bool.false_or, decide_eq_false_iff_not]
          omega
      rw [hno _ (Nat.le_refl _)] at q
      cases q
  unfold canE
  rw [if_neg hbig, if_neg (loose_nodup h hσ hx), canL_loose_len h hσ hx, plV_eq fun j hj => canL_loose_eq h hσ hx hj]
  exact hp
/-- The canonical forms of the play and of the loose one hold the same. -/
theorem canP_loose (s1 s2 : ByteArray) (lx : Bool) (hp : plV y0 yo yn y1 eo en d n = 0) (h : FullP y0 yo yn y1 eo en d n) (hσ : σ.Perm (List.range n)) (hx : ExOk d n ex) :
    sameP (canP s1 s2 lx y0 yo yn y1 eo en (dOf (looseL d σ ex)) (looseL d σ ex).length) (canP s1 s2 lx y0 yo yn y1 eo en d n) = true := by
  have e : ∀ i, i < n → EqM (dOf (canL (dOf (looseL d σ ex)) (looseL d σ ex).length) i) (dOf (canL d n) i) := fun i hi => (canL_loose_eq h hσ hx hi).trans (canL_eq h hi).symm
  rw [canP_valid s1 s2 lx hp h]
  unfold canP
  rw [if_pos (canE_loose hp h hσ hx)]
  unfold sameP
  dsimp only
  rw [canL_loose_len h hσ hx, canL_len h, same_eqm e, late_eq lx (M := canL d n) (by rw [canL_loose_len h hσ hx, canL_len h]) (by rw [canL_loose_len h hσ hx]; exact e)]
  simp
end
end Go.Proofs.Tryz
