/- Leaders: what is answered, and the rows of it. Short lists of games, as the reference sees them: by the kit's walk. Books and games of the season made out of the reference's; awake: by the kit's walk. -/
import Derived.Test.YtbfonnoebbjenaaGreatDoorAxLi
import Derived.Test.YtbfonnoebbjenaaGreatDoorAxSo
import Derived.Test.YtbfonnoebbjenaaGreatDoorAxD
import Derived.Test.YtbfonnoebbjenaaGreatDoorAxS
import Derived.Test.YtbfonnoebbjenaaGreatDoorAmL6
import Derived.Handy
namespace Go.Proofs.Tryz
open Go Go.Am Go.RowKit Go.Op
set_option maxRecDepth 100000

def kdI (s : List UInt8) : Nat := (kindN s).toNat
theorem kdI_of {s : List UInt8} (h : kindE s = 0) : kindN s = (kdI s : Int) ∧ kdI s < 12 := by
  unfold kindE at h
  unfold kdI
  rcases kindN_in s with q | q
  · rw [q] at h; exact absurd h (by decide)
  · omega
def ldK (t : List Tot) (num den : List UInt8) (least n : Int) : Int := fstE [totsE t, kindE num, kindE den, inE least 0 999999999, inE n 1 256]
def negT (i k : Nat) (x : Tot) : Bool := decide (x.c i < 0) || decide (x.c k < 0)
/-- The error of a question. -/
def ldE (t : List Tot) (num den : List UInt8) (least n : Int) : Int := if ldK t num den least n = 0 then (if t.any (negT (kdI num) (kdI den)) = true then 3 else 0) else ldK t num den least n
def ldF (k : Nat) (least : Int) (t : List Tot) : List Tot := t.filter fun x => !decide (x.c k < max least 1)
def ldC (i k : Nat) (x : Tot × Nat) : List Value := [.string (bA x.1.p), .int .i64 (rtN (x.1.c i) (x.1.c k)), .int .i64 (rtD (x.1.c i) (x.1.c k)), .int .i64 (x.2 : Int)]
theorem ldC_len (i k : Nat) (x : Tot × Nat) : (ldC i k x).length = 4 := rfl
/-- The rows of leaders that are handed back. -/
def LdOk (w : World) (base e : Nat) (u : Value) (t : List Tot) (i k : Nat) (least n : Int) : Prop := ∃ S, S.Perm (ldF k least t) ∧ SortL i k S ∧ OwnRow w base e 4 u ((outL i k n.toNat S S.length).map (ldC i k))
def LdAns (w : World) (base e : Nat) (u : Value) (x : Int) (t : List Tot) (num den : List UInt8) (least n : Int) : Prop := x = ldE t num den least n ∧ (x = 0 → LdOk w base e u t (kdI num) (kdI den) least n) ∧ (x ≠ 0 → u = .slice none 0 0)
theorem fst5_zero {a b c d e : Int} (h : fstE [a, b, c, d, e] = 0) : a = 0 ∧ b = 0 ∧ c = 0 ∧ d = 0 ∧ e = 0 := by
  simp only [fstE] at h
  by_cases q1 : a = 0
  · by_cases q2 : b = 0
    · by_cases q3 : c = 0
      · by_cases q4 : d = 0
        · by_cases q5 : e = 0
          · exact ⟨q1, q2, q3, q4, q5⟩
          · simp [q1, q2, q3, q4, q5] at h
        · simp [q1, q2, q3, q4] at h
      · simp [q1, q2, q3] at h
    · simp [q1, q2] at h
  · simp [q1] at h
theorem first5_w (x y z u v : Int) (b : Nat) (W : World) (h0 : W.cell? ⟨b, 0, none⟩ = some (.int .i64 x)) (h1 : W.cell? ⟨b, 1, none⟩ = some (.int .i64 y)) (h2 : W.cell? ⟨b, 2, none⟩ = some (.int .i64 z)) (h3 : W.cell? ⟨b, 3, none⟩ = some (.int .i64 u)) (h4 : W.cell? ⟨b, 4, none⟩ = some (.int .i64 v)) :
    Calls prog 88 #[.slice (some ⟨b, 0, none⟩) 5 5] W fun e w' => e = .returned (.int .i64 (fstE [x, y, z, u, v])) ∧ w' = W :=
  first_w [x, y, z, u, v] b 5 W (by simp) fun j r h => by
    match j, h with
    | 0, h => simp at h; subst h; exact h0
    | 1, h => simp at h; subst h; exact h1
    | 2, h => simp at h; subst h; exact h2
    | 3, h => simp at h; subst h; exact h3
    | 4, h => simp at h; subst h; exact h4
    | j + 5, h => simp at h
/-- All numbers of a handed total. -/
theorem IsTots.all {w : World} {l : List Tot} {b off n c : Nat} (h : IsTots w (.slice (some ⟨b, off, none⟩) n c) l) {i : Nat} {t : Tot} (ht : l[i]? = some t) : w.cell? ⟨b, off + i * 14, none⟩ = some (.string (bA t.p)) ∧ w.cell? ⟨b, off + i * 14 + 1, none⟩ = some (.int .i64 t.gm) ∧ w.cell? ⟨b, off + i * 14 + 2, none⟩ = some (.int .i64 (t.c 0)) ∧ w.cell? ⟨b, off + i * 14 + 3, none⟩ = some (.int .i64 (t.c 1)) ∧ w.cell? ⟨b, off + i * 14 + 4, none⟩ = some (.int .i64 (t.c 2)) ∧ w.cell? ⟨b, off + i * 14 + 5, none⟩ = some (.int .i64 (t.c 3)) ∧ w.cell? ⟨b, off + i * 14 + 6, none⟩ = some (.int .i64 (t.c 4)) ∧ w.cell? ⟨b, off + i * 14 + 7, none⟩ = some (.int .i64 (t.c 5)) ∧ w.cell? ⟨b, off + i * 14 + 8, none⟩ = some (.int .i64 (t.c 6)) ∧ w.cell? ⟨b, off + i * 14 + 9, none⟩ = some (.int .i64 (t.c 7)) ∧ w.cell? ⟨b, off + i * 14 + 10, none⟩ = some (.int .i64 (t.c 8)) ∧ w.cell? ⟨b, off + i * 14 + 11, none⟩ = some (.int .i64 (t.c 9)) ∧ w.cell? ⟨b, off + i * 14 + 12, none⟩ = some (.int .i64 (t.c 10)) ∧ w.cell? ⟨b, off + i * 14 + 13, none⟩ = some (.int .i64 (t.c 11)) := by
  obtain ⟨b', off', c', e, -, p0, p1, pc⟩ := h.at ht
  simp only [Value.slice.injEq, Option.some.injEq, Addr.mk.injEq, and_true] at e
  obtain ⟨⟨rfl, rfl⟩, -, -⟩ := e
  exact ⟨p0, p1, pc 0 (by decide), pc 1 (by decide), pc 2 (by decide), pc 3 (by decide), pc 4 (by decide), pc 5 (by decide), pc 6 (by decide), pc 7 (by decide), pc 8 (by decide), pc 9 (by decide), pc 10 (by decide), pc 11 (by decide)⟩
theorem IsTots.num {w : World} {l : List Tot} {b off n c : Nat} (h : IsTots w (.slice (some ⟨b, off, none⟩) n c) l) {i : Nat} {t : Tot} (ht : l[i]? = some t) {j : Nat} (hj : j < 12) : w.cell? ⟨b, off + i * 14 + (2 + j), none⟩ = some (.int .i64 (t.c j)) := by
  obtain ⟨b', off', c', e, -, p0, p1, pc⟩ := h.at ht
  simp only [Value.slice.injEq, Option.some.injEq, Addr.mk.injEq, and_true] at e
  obtain ⟨⟨rfl, rfl⟩, -, -⟩ := e
  exact pc j hj
theorem infoLd : (prog.info? 63).map (fun i => (i.zero, i.size, i.bytes)) = some (some (.agg #[.string ⟨#[]⟩, .int .i64 0, .int .i64 0, .int .i64 0]), 4, 40) := by kernel_rfl
theorem infoLdR : (prog.info? 62).map (fun i => (i.zero, i.size, i.bytes)) = some (some (.agg #[.string ⟨#[]⟩, .int .i64 0, .int .i64 0, .int .i64 0]), 4, 40) := by kernel_rfl
theorem elLd : ∃ i, ElT 47 63 4 i (.agg #[.string ⟨#[]⟩, .int .i64 0, .int .i64 0, .int .i64 0]) 40 := by
  obtain ⟨i, hi, hz0, hz1, hz2⟩ := info_more infoLd
  exact ⟨i, by kernel_rfl, hi, hz0, hz1, hz2, rfl, by decide, by decide⟩
theorem elLdR : ∃ i, ElT 57 62 4 i (.agg #[.string ⟨#[]⟩, .int .i64 0, .int .i64 0, .int .i64 0]) 40 := by
  obtain ⟨i, hi, hz0, hz1, hz2⟩ := info_more infoLdR
  exact ⟨i, by kernel_rfl, hi, hz0, hz1, hz2, rfl, by decide, by decide⟩
theorem run_sliceLd (w : World) (c0 c1 c2 c3 : Value) : (Instr.buildSlice 47 1 #[(0, .agg #[c0, c1, c2, c3])]).run prog w = .ok (.slice (some ⟨w.heap.size, 0, none⟩) 1 1) (w.alloc (.cells #[c0, c1, c2, c3] 63)) := by simp [go_sem]
theorem run_sliceLdR (w : World) (c0 c1 c2 c3 : Value) : (Instr.buildSlice 57 1 #[(0, .agg #[c0, c1, c2, c3])]).run prog w = .ok (.slice (some ⟨w.heap.size, 0, none⟩) 1 1) (w.alloc (.cells #[c0, c1, c2, c3] 62)) := by simp [go_sem]
/-- A place is that of the one ahead where the rates are alike. -/
theorem plP_step {i k : Nat} {S : List Tot} (q : Nat) : plP i k S (q + 1) = if cmpI ((atL S (q + 1)).c i * (atL S q).c k) ((atL S q).c i * (atL S (q + 1)).c k) = 0 then plP i k S q else q + 2 := by
  conv => lhs; unfold plP
  have hC : cmpI ((atL S (q + 1)).c i * (atL S q).c k) ((atL S q).c i * (atL S (q + 1)).c k) = 0 ↔ leR i k (atL S (q + 1)) (atL S q) ∧ leR i k (atL S q) (atL S (q + 1)) := by
    unfold leR cmpI
    generalize (atL S (q + 1)).c i * (atL S q).c k = u
    generalize (atL S q).c i * (atL S (q + 1)).c k = v
    by_cases h1 : u < v
    · rw [if_pos h1]
      exact ⟨fun h => absurd h (by decide), fun h => by omega⟩
    · rw [if_neg h1]
      by_cases h2 : v < u
      · rw [if_pos h2]
        exact ⟨fun h => absurd h (by decide), fun h => by omega⟩
      · rw [if_neg h2]
        exact ⟨fun _ => by omega, fun _ => rfl⟩
  by_cases h : leR i k (atL S (q + 1)) (atL S q) ∧ leR i k (atL S q) (atL S (q + 1))
  · rw [if_pos h, if_pos (hC.2 h)]
  · rw [if_neg h, if_neg (fun e => h (hC.1 e))]
theorem ldF_pos {i k : Nat} {least : Int} {t : List Tot} (hk : k < 12) (hi : i < 12) (h : totsE t = 0) (hneg : t.any (negT i k) = false) : ∀ x ∈ ldF k least t, PosB i k x := fun x hx => by
  obtain ⟨hm, hf⟩ := List.mem_filter.1 hx
  have h1 := ((totsE_zero h).2.2 x hm).2
  have h2 : negT i k x = false := by
    have := List.any_eq_false.1 hneg x hm
    simpa using this
  unfold negT at h2
  simp only [Bool.or_eq_false_iff, decide_eq_false_iff_not] at h2
  simp only [Bool.not_eq_true', decide_eq_false_iff_not] at hf
  have h3 := h1.2 i hi
  have h4 := h1.2 k hk
  unfold inR at h3 h4
  unfold PosB
  omega
theorem SortT.names {l : List Tot} (h : SortT l) : l.Pairwise fun a b => a.p ≠ b.p := List.Pairwise.imp (fun h => bl_ne h) h
theorem PosB.rate {i k : Nat} {x : Tot} (h : PosB i k x) : rateE (x.c i) (x.c k) = 0 := by
  have h1 : rB (x.c i) := by unfold rB; have := h.1; omega
  have h2 : rB (x.c k) := by unfold rB; have := h.2; omega
  have h3 : ¬ x.c k = 0 := by have := h.2; omega
  unfold rateE
  rw [inB9_rB h1, inB9_rB h2, if_neg h3]
  rfl
theorem atL_get {S : List Tot} {j : Nat} (h : j < S.length) : S[j]? = some (atL S j) := by
  unfold atL
  rw [List.getElem?_eq_getElem h]
  rfl
end Go.Proofs.Tryz

namespace Go.Proofs.Tryz
open Go Go.Am Go.RowKit Go.Op
set_option maxRecDepth 100000

def shHd (g : GmD) : Prop := g.nm.length ≤ 60 ∧ g.t0.length ≤ 60 ∧ g.t1.length ≤ 60 ∧ ¬ (6 < g.k ∧ g.k ≤ 60) ∧ g.k ≤ 62
instance (g : GmD) : Decidable (shHd g) := by unfold shHd; infer_instance
/-- A truth value that is true only if p holds. -/
def AnsB (e : Ending) (p : Prop) : Prop := ∃ b : Bool, e = .returned (.bool b) ∧ (b = true → p)
end Go.Proofs.Tryz

namespace Go.Proofs.Tryz
open Go Go.Am Go.RowKit Go.Op
set_option maxRecDepth 100000

theorem Laid.below {w w' : World} (h : Laid w) (hb : Below w.heap.size w w') : Laid w' :=
  ⟨Nat.lt_of_lt_of_le h.1 hb.size, fun o v hv => (hb.cell (cell_under (h.2 o v hv))).trans (h.2 o v hv)⟩
theorem fn15 : cx.fn 15 = some f15 := by kernel_rfl
theorem hasBody15 : f15.body.isSome = true := by kernel_rfl
theorem awake_w {w : World} (h : Laid w) : Calls prog 15 #[] w fun e w' => e = .returned (.bool true) ∧ Below w.heap.size w w' := by
  obtain ⟨c, hc⟩ := Option.isSome_iff_exists.1 hasBody15
  refine (CallRet.calls fn15 hc (awake h)).mono fun e W' ⟨v, he, hv, hk⟩ => ?_
  subst hv
  exact ⟨he, hk.below⟩
end Go.Proofs.Tryz
