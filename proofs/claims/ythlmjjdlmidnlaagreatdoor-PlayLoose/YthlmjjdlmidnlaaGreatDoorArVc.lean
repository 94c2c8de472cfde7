/- Plain: the assists, as the keys of a map and as a list. Short as a statement, Touches of whatever play, awake: by the kit's walk. kept at moves: whatever the predicate, by the kit's walk. Outs, Runs and Advances of the program, by the kit's walk. Plain: what holds of a valid play's moves, one by one, and of the sums over them. -/
import Derived.Test.YthlmjjdlmidnlaaGreatDoorArV3
import Derived.Lib.SlKeysI
import Derived.Maps.Views
import Derived.Maps.OwnSet
import Derived.Test.YthlmjjdlmidnlaaGreatDoorArVf
import Derived.Shelf.SlIterI.Nil
import Derived.Shelf.SortM.Plain
import Derived.Shelf.SortM.SortNone
import Derived.Ground.GgzProg
import Derived.Ground.SlgmProg
import Derived.Test.YthlmjjdlmidnlaaGreatDoorProg
import Derived.Lib.Hide
import Derived.Test.YthlmjjdlmidnlaaGreatDoorArZc
namespace Go.Proofs.Tryz
open Go Go.Am Go.RowKit Go.Dr
set_option maxRecDepth 100000

section
variable (t : Int → Int) (o : Int)
/-- The map behind k touches. -/
def mapK : Nat → DataW Unit
  | 0 => .map []
  | k + 1 => (mapK k).put (.int .i64 (t (o + (k : Int)))) (.lit (.bool true))
theorem isMap_mapK : ∀ k, Maps.IsMap (mapK t o k)
  | 0 => ⟨[], rfl⟩
  | k + 1 => (isMap_mapK k).put _ _
theorem has_mapK (x : Int) : ∀ k, Maps.has (mapK t o k) (.int .i64 x) = hasB t o x k
  | 0 => rfl
  | k + 1 => by
    by_cases hx : t (o + (k : Int)) = x
    · rw [mapK, hx, Maps.has_put_same (k := .int .i64 x) (isMap_mapK t o k) (by exact trivial)]; simp [hasB, hx]
    · rw [mapK, Maps.has_put_other (by simp only [ne_eq, Lit.int.injEq, true_and]; exact fun e => hx e.symm), has_mapK x k]; simp [hasB, hx]

/-- The map of an out. -/
def mapD (m : Nat) : DataW Unit := (mapK t o m).del (.int .i64 (t (o + ((m - 1 : Nat) : Int))))
theorem has_mapD (m : Nat) (x : Int) : Maps.has (mapD t o m) (.int .i64 x) = (decide (x ≠ t (o + ((m - 1 : Nat) : Int))) && hasB t o x m) := by
  by_cases hx : x = t (o + ((m - 1 : Nat) : Int))
  · rw [mapD, ← hx, Maps.has_del_same]; simp
  · rw [mapD, Maps.has_del_other (by simp only [ne_eq, Lit.int.injEq, true_and]; exact hx), has_mapK]; simp [hx]

theorem mem_asK (m : Nat) (x : Int) : ∀ k, x ∈ asK t o m k ↔ 1 ≤ x ∧ x ≤ k ∧ x ≠ t (o + ((m - 1 : Nat) : Int)) ∧ hasB t o x m = true
  | 0 => by simp [asK]; omega
  | k + 1 => by
    rw [asK, List.mem_append, mem_asK m x k]
    constructor
    · rintro (⟨h1, h2, h3⟩ | h)
      · exact ⟨h1, by omega, h3⟩
      · split at h
        · rename_i hc
          have hx : x = (k : Int) + 1 := by simpa using h
          subst hx
          exact ⟨by omega, by omega, hc⟩
        · cases h
    · rintro ⟨h1, h2, h3⟩
      by_cases hx : x = (k : Int) + 1
      · subst hx; right; rw [if_pos h3]; simp
      · left; exact ⟨h1, by omega, h3⟩
theorem sort_asK (m : Nat) : ∀ k, (asK t o m k).Pairwise (· < ·)
  | 0 => List.Pairwise.nil
  | k + 1 => by
    rw [asK, List.pairwise_append]
    refine ⟨sort_asK m k, ?_, fun a ha b hb => ?_⟩
    · split <;> simp
    · have := ((mem_asK t o m a k).1 ha).2.1
      split at hb
      · have : b = (k : Int) + 1 := by simpa using hb
        omega
      · cases hb

theorem hasB_mem {m : Nat} {x : Int} : ∀ {k : Nat}, hasB t o x k = true → ∃ j : Nat, j < k ∧ t (o + (j : Int)) = x
  | 0, h => by cases h
  | k + 1, h => by
    simp only [hasB, Bool.or_eq_true, decide_eq_true_eq] at h
    rcases h with h | h
    · obtain ⟨j, hj, e⟩ := hasB_mem (m := m) h; exact ⟨j, by omega, e⟩
    · exact ⟨k, by omega, h⟩

/-- The keys of the map, sorted, are the reference's list. -/
theorem keys_asL {ty : TypeId} {w : World} {b n : Nat} {R : Value → Option (DataW Unit × List MemPlace)} (K : Maps.Keyed prog ty) (hk : prog.underlying ty = some (.int .i64)) (m : Nat) (hown : w.ownsMap prog ty R b n (mapD t o m))
    (ht : ∀ j : Nat, j < m → 1 ≤ t (o + j) ∧ t (o + j) ≤ 9) {ss : List Int} (hp : ss.Perm (intKeys (mapD t o m))) : ss.mergeSort (fun x y => decide (x ≤ y)) = asL t o m := by
  have hc : CollectedI (mapD t o m) (fun _ => false) (asL t o m) := by
    refine ⟨(sort_asK t o m 9).imp fun h => by omega, fun x => ?_⟩
    rw [show asL t o m = asK t o m 9 from rfl, mem_asK, has_mapD]
    simp only [Bool.and_eq_true, decide_eq_true_eq, and_true]
    constructor
    · rintro ⟨_, _, h3⟩; exact h3
    · rintro ⟨h3, h4⟩
      obtain ⟨j, hj, e⟩ := hasB_mem (m := 0) t o h4
      have := ht j hj
      exact ⟨by omega, by omega, h3, h4⟩
  have hq := hc.perm hown K hk (fun _ => rfl)
  have e1 := mergeSort_of_perm_i (hp.trans hq.symm)
  have e2 : (asL t o m).mergeSort leI = asL t o m := by
    refine List.mergeSort_of_pairwise ?_
    exact (sort_asK t o m 9).imp fun h => by simp only [leI, decide_eq_true_eq]; omega
  exact e1.trans e2
end
end Go.Proofs.Tryz

namespace Go.Proofs.Tryz
open Go Go.Am Go.RowKit Go.Dr
set_option maxRecDepth 100000

theorem kept_of {w w' : World} (h : Below w.heap.size w w') : Kept w w' := ⟨h.os, h.tape, h.output, h.size, h.block⟩

/-- A play that Short takes. -/
def ShortP (yn en : Int) (d : Nat → MvD) (n : Nat) : Prop := yn ≤ 26 ∧ en ≤ 20 ∧ n ≤ 6 ∧ ∀ i, i < n → (d i).sn ≤ 20 ∧ (d i).bn ≤ 40
def ShortR (yn en : Int) (d : Nat → MvD) (n : Nat) (e : Ending) : Prop := ∃ r : Bool, e = .returned (.bool r) ∧ (r = true ↔ ShortP yn en d n)
theorem str_size {s : ByteArray} {y : Int → Int} {o n : Int} (h : IsStr (.string s) y o n) : (s.size : Int) = n := by
  obtain ⟨l, e, h1, -⟩ := h
  cases e
  rw [← h1]
  show ((l.toArray.size : Nat) : Int) = _
  simp

section
variable {w : World} {y0 y1 : Int → Int} {yo yn eo en : Int} {lx : Bool} {d : Nat → MvD} {n : Nat} {s1 s2 : ByteArray} {mv : Value}
theorem shortR_w (hp : IsStr (.string s1) y0 yo yn) (he : IsStr (.string s2) y1 eo en) (hm : IsMoves w mv d n) :
    Calls prog 14 #[.agg #[.string s1, .string s2, .bool lx, mv]] w fun e w' => ShortR yn en d n e ∧ Below w.heap.size w w' := by
  have e1 := str_size hp
  have e2 := str_size he
  obtain ⟨ad0, c0, rfl, hnc, hM0⟩ := hm
  have al := (Below.refl w.heap.size w).alloc (Nat.le_refl _) (.cells #[.string s1, .string s2, .bool lx, .slice ad0 n c0] 24)
  by_cases h1 : (26 : Int) < (s1.size : Int)
  · have hno : ¬ ShortP yn en d n := fun h => by have := h.1; omega
    clear e1 e2
    go_enter func14, ntmps14
    go_wp2
    go_ret
    exact ⟨⟨false, rfl, fun h => (by cases h), fun h => absurd h hno⟩, al⟩
  by_cases h2 : (20 : Int) < (s2.size : Int)
  · have hno : ¬ ShortP yn en d n := fun h => by have := h.2.1; omega
    clear e1 e2
    go_enter func14, ntmps14
    go_wp2
    go_ret
    exact ⟨⟨false, rfl, fun h => (by cases h), fun h => absurd h hno⟩, al⟩
  by_cases h3 : (6 : Int) < (n : Int)
  · have hno : ¬ ShortP yn en d n := fun h => by have := h.2.2.1; omega
    clear e1 e2
    go_enter func14, ntmps14
    go_wp2
    go_ret
    exact ⟨⟨false, rfl, fun h => (by cases h), fun h => absurd h hno⟩, al⟩
  have h12 : yn ≤ 26 ∧ en ≤ 20 := ⟨by omega, by omega⟩
  clear e1 e2
  go_enter func14, ntmps14
  go_wp2
  go_loopw [2, 3] (fun r s wr => ∃ i : Nat, i ≤ n ∧ s = .int .i64 i ∧ r = .bool false ∧ (∀ j, j < i → (d j).sn ≤ 20 ∧ (d j).bn ≤ 40) ∧ At wr w.heap.size #[.string s1, .string s2, .bool lx, .slice ad0 n c0] 24 ∧ Below w.heap.size w wr) (fun _ s _ => n - (numOf' s).toNat)
  case atStart => exact ⟨0, Nat.zero_le _, rfl, rfl, fun j hj => by omega, at_new _ _ _, al⟩
  case round =>
    obtain ⟨i, hi, rfl, rfl, hall, hbox, hbel⟩ := hrel
    have hc3 : wr.cell? ⟨w.heap.size, 3, none⟩ = some (.slice ad0 n c0) := (box4 hbox).1.2.2.2
    by_cases hin : i < n
    · obtain ⟨b, off, rfl, hM⟩ := hM0 (by omega)
      obtain ⟨s, ad, m, c, hmv⟩ := mv_at ((hM i hin).below hbel)
      obtain ⟨p0, p1, p2, p3, p4, hs, -, hbn, -⟩ := hmv
      have hsn := str_size hs
      clear hM hM0 p0 p1 p2 hs
      by_cases h4 : (20 : Int) < (s.size : Int)
      · have hno : ¬ ShortP yn en d n := fun h => by have := (h.2.2.2 i hin).1; omega
        clear hsn hbn
        go_wp2
        go_ret
        exact ⟨⟨false, rfl, fun h => (by cases h), fun h => absurd h hno⟩, hbel⟩
      by_cases h5 : (40 : Int) < (m : Int)
      · have hno : ¬ ShortP yn en d n := fun h => by have := (h.2.2.2 i hin).2; omega
        clear hsn hbn
        go_wp2
        go_ret
        exact ⟨⟨false, rfl, fun h => (by cases h), fun h => absurd h hno⟩, hbel⟩
      have hall' : ∀ j, j < i + 1 → (d j).sn ≤ 20 ∧ (d j).bn ≤ 40 := fun j hj => by
        by_cases hji : j = i
        · subst hji; exact ⟨by omega, by omega⟩
        · exact hall j (by omega)
      clear hsn hbn hall
      go_wp2
      go_roundw
      case rel => exact ⟨i + 1, by omega, by go_num, rfl, hall', hbox, hbel⟩
      case measure => simp [numOf'] <;> omega
    · have hin' : i = n := by omega
      subst hin'
      clear hM0
      go_wp2
      go_ret
      exact ⟨⟨true, rfl, fun _ => ⟨h12.1, h12.2, by omega, hall⟩, fun _ => rfl⟩, hbel⟩
theorem short_yes (hp : IsStr (.string s1) y0 yo yn) (he : IsStr (.string s2) y1 eo en) (hm : IsMoves w mv d n) (h : ShortP yn en d n) :
    Calls prog 14 #[.agg #[.string s1, .string s2, .bool lx, mv]] w fun e w' => e = .returned (.bool true) ∧ Below w.heap.size w w' := by
  refine (shortR_w hp he hm).mono ?_
  rintro e w' ⟨⟨r, rfl, hr⟩, hB⟩
  exact ⟨by rw [hr.2 h], hB⟩
theorem short_no (hp : IsStr (.string s1) y0 yo yn) (he : IsStr (.string s2) y1 eo en) (hm : IsMoves w mv d n) (h : ¬ ShortP yn en d n) :
    Calls prog 14 #[.agg #[.string s1, .string s2, .bool lx, mv]] w fun e w' => e = .returned (.bool false) ∧ Below w.heap.size w w' := by
  refine (shortR_w hp he hm).mono ?_
  rintro e w' ⟨⟨r, rfl, hr⟩, hB⟩
  cases r with
  | false => exact ⟨rfl, hB⟩
  | true => exact absurd (hr.1 rfl) h
end

theorem hasB13 : f13.body.isSome = true := by kernel_rfl
theorem fn13 : cx.fn 13 = some f13 := by kernel_rfl
theorem awake_w {w : World} (h : Laid w) : Calls prog 13 #[] w fun e w' => e = .returned (.bool true) ∧ Below w.heap.size w w' := by
  obtain ⟨c, hc⟩ := Option.isSome_iff_exists.1 hasB13
  refine (CallRet.calls fn13 hc (awake h)).mono ?_
  rintro e w' ⟨v, rfl, rfl, hk⟩
  exact ⟨rfl, belowOf hk⟩

/-- How often each fielder touched the ball; nothing if the play is wrong. -/
def tchP (pl : Int) (d : Nat → MvD) (n : Nat) : List Int := if pl = 0 then tchL d n else List.replicate 9 0
theorem length_tchP (pl : Int) (d : Nat → MvD) (n : Nat) : (tchP pl d n).length = 9 := by
  unfold tchP; split
  · exact length_outT d n
  · rfl
section
variable {w : World} {pl : Int} {lx : Bool} {pvv ev : Value} {ad0 : Option Addr} {n c : Nat}
theorem touch_bad (hc : Chk w (.agg #[pvv, ev, .bool lx, .slice ad0 n c]) pl) (hne : ¬ pl = 0) :
    Calls prog 27 #[.agg #[pvv, ev, .bool lx, .slice ad0 n c]] w fun e w' => e = .returned (.tuple #[.agg (cntA (List.replicate 9 0)), .int .i64 pl]) ∧ Below w.heap.size w w' := by
  have hB : Below w.heap.size w ((w.alloc (.cells #[pvv, ev, .bool lx, .slice ad0 n c] 24)).alloc (.cells #[.int .i64 0, .int .i64 0, .int .i64 0, .int .i64 0, .int .i64 0, .int .i64 0, .int .i64 0, .int .i64 0, .int .i64 0] 49)) := ((Below.refl _ _).alloc (Nat.le_refl _) _).alloc (by simp) _
  have cC := hc _ hB
  clear hc
  go_enter func27, ntmps27
  go_wp2_with (first
    | (go_at_call 15; refine cC.mono ?_; rintro e w2 ⟨rfl, hk2⟩; have hr1 := (at2_1 _ _ _ _ _).below hk2 (by rw [size2]; omega); have rr : ∀ j, j < 9 → w2.cell? ⟨w.heap.size + 1, j, none⟩ = some (.int .i64 0) ∧ w2.frozen? ⟨w.heap.size + 1, j, none⟩ = false := fun j hj => (by unfold At at hr1; have h9 : j = 0 ∨ j = 1 ∨ j = 2 ∨ j = 3 ∨ j = 4 ∨ j = 5 ∨ j = 6 ∨ j = 7 ∨ j = 8 := (by omega); constructor <;> simp only [World.cell?, World.frozen?, hr1] <;> rcases h9 with rfl | rfl | rfl | rfl | rfl | rfl | rfl | rfl | rfl <;> rfl); obtain ⟨r0, f0⟩ := rr 0 (by omega); obtain ⟨r1, f1⟩ := rr 1 (by omega); obtain ⟨r2, f2⟩ := rr 2 (by omega); obtain ⟨r3, f3⟩ := rr 3 (by omega); obtain ⟨r4, f4⟩ := rr 4 (by omega); obtain ⟨r5, f5⟩ := rr 5 (by omega); obtain ⟨r6, f6⟩ := rr 6 (by omega); obtain ⟨r7, f7⟩ := rr 7 (by omega); obtain ⟨r8, f8⟩ := rr 8 (by omega); clear rr)
    | go_in)
  have hb2 : Below w.heap.size w w2 := hB.trans (hk2.mono (by rw [size2]; omega))
  refine bodyPost_ret (v := .tuple #[.agg (cntA (List.replicate 9 0)), .int .i64 pl]) (by simp [results, results27, go_sem, cntA, vi, List.replicate, World.cell?_setCell_same, r0, r1, r2, r3, r4, r5, r6, r7, r8]) rfl ⟨rfl, ?_⟩
  repeat (refine Below.setCell ?_ (by simp) _)
  exact hb2
theorem touchP_w (hc : Chk w (.agg #[pvv, ev, .bool lx, .slice ad0 n c]) pl) {d : Nat → MvD} (hm : IsMoves w (.slice ad0 n c) d n) (hv : pl = 0 → Val d n) :
    Calls prog 27 #[.agg #[pvv, ev, .bool lx, .slice ad0 n c]] w fun e w' => e = .returned (.tuple #[.agg (cntA (tchP pl d n)), .int .i64 pl]) ∧ Below w.heap.size w w' := by
  unfold tchP
  by_cases h : pl = 0
  · subst h
    obtain ⟨a1, c1, e1, hnc, hM0⟩ := hm
    simp only [Value.slice.injEq, true_and] at e1
    obtain ⟨rfl, rfl⟩ := e1
    simp only [if_true]
    exact touch_w pvv ev lx d n c ad0 w (hv rfl) hnc hM0 fun W hW => (hc W hW).mono fun e w' ⟨h1, h2⟩ => ⟨h1, kept_of h2⟩
  · simp only [if_neg h]
    exact touch_bad hc h
theorem touchR_any {d : Nat → MvD} (hm : IsMoves w (.slice ad0 n c) d n) (hv : Val d n) :
    Calls prog 32 #[.agg #[pvv, ev, .bool lx, .slice ad0 n c]] w fun e w' => e = .returned (.agg (cntA (tchL d n))) ∧ Below w.heap.size w w' := by
  obtain ⟨a1, c1, e1, hnc, hM0⟩ := hm
  simp only [Value.slice.injEq, true_and] at e1
  obtain ⟨rfl, rfl⟩ := e1
  exact touchR_w pvv ev lx d n c ad0 w hv hnc hM0
end
end Go.Proofs.Tryz

namespace Go.Proofs.Tryz
open Go Go.Am Go.RowKit Go.Dr
set_option maxRecDepth 100000

/-- The cells of the moves that are kept. -/
def keptC (p : Nat → Bool) (cs : Nat → List Value) : Nat → List Value
  | 0 => []
  | i + 1 => keptC p cs i ++ (if p i = true then cs i else [])
def keptN (p : Nat → Bool) : Nat → Nat
  | 0 => 0
  | i + 1 => keptN p i + (if p i = true then 1 else 0)
theorem keptN_le (p : Nat → Bool) : ∀ i, keptN p i ≤ i
  | 0 => Nat.le_refl _
  | i + 1 => by have := keptN_le p i; rw [keptN]; split <;> omega

theorem kept99_0 (ad : Option Addr) (c : Nat) (w : World) : Calls prog 98 #[.slice ad 0 c, .func (.func 99) #[] #[]] w fun e w' => e = .returned (.slice none 0 0) ∧ Below w.heap.size w w' := by
  go_enter func98, ntmps98
  go_wp2
  refine wp_loop_rounds 1 ?_
  rw [rounds_succ]
  go_wp2
  go_ret
  exact ⟨rfl, Below.refl _ _⟩

set_option maxHeartbeats 1600000 in
theorem kept99_w {w : World} {n c b off : Nat} {cs : Nat → List Value} {p : Nat → Bool} (hn : n ≤ 1000000) (hnc : n ≤ c) (hc : ∀ i, i < n → ∃ f1 f2 xb s a m k, cs i = [.int .i64 f1, .int .i64 f2, .bool xb, .string s, .slice a m k] ∧ cellsAt w b (off + 5 * i) 5 = (cs i).map some)
    (hp : ∀ i, i < n → ∀ W, Below w.heap.size w W → Calls prog 99 #[.agg (cs i).toArray] W fun e w' => e = .returned (.bool (p i)) ∧ Below W.heap.size W w') :
    Calls prog 98 #[.slice (some ⟨b, off, none⟩) n c, .func (.func 99) #[] #[]] w fun e w' => ∃ v, e = .returned v ∧ w'.ownsRow w.heap.size 27 5 v (keptN p n) (keptC p cs n) ∧ Below w.heap.size w w' := by
  obtain ⟨i27, hi, hz0, hz1, hz2⟩ := info_more info27
  have zz : ((.agg #[.int .i64 0, .int .i64 0, .bool false, .string ⟨#[]⟩, .slice none 0 0] : Value)).cells.size = 5 := rfl
  go_enter func98, ntmps98
  go_wp2
  go_loopw [5, 10] (fun r s wr => ∃ (i : Nat) (v : Value), i ≤ n ∧ s = .int .i64 i ∧ v = r ∧ wr.ownsRow w.heap.size 27 5 v (keptN p i) (keptC p cs i) ∧ Below w.heap.size w wr) (fun _ s _ => n - (numOf' s).toNat)
  case atStart => exact ⟨0, _, Nat.zero_le _, rfl, rfl, World.ownsRow_nil _ _ _ _, Below.refl _ _⟩
  case round =>
    obtain ⟨i, v, hi', rfl, rfl, hown, hbel⟩ := hrel
    by_cases hin : i < n
    · obtain ⟨f1, f2, xb, s, a, m, k, e5, hcell⟩ := hc i hin
      have hp1 := hp i hin
      have hlen := keptN_le p i
      rw [e5] at hp1 hcell
      clear hc hp
      have e0 : off + 5 * i = off + i * 5 := by omega
      simp only [cellsAt, List.map_cons, List.map_nil, List.cons.injEq, and_true, e0] at hcell
      obtain ⟨q0, q1, q2, q3, q4⟩ := hcell
      have p0 : wr.cell? ⟨b, off + i * 5, none⟩ = some (.int .i64 f1) := (hbel.cell (cell_under q0)).trans q0
      have p1 : wr.cell? ⟨b, off + i * 5 + 1, none⟩ = some (.int .i64 f2) := (hbel.cell (cell_under q1)).trans q1
      have p2 : wr.cell? ⟨b, off + i * 5 + 2, none⟩ = some (.bool xb) := (hbel.cell (cell_under q2)).trans q2
      have p3 : wr.cell? ⟨b, off + i * 5 + 3, none⟩ = some (.string s) := (hbel.cell (cell_under q3)).trans q3
      have p4 : wr.cell? ⟨b, off + i * 5 + 4, none⟩ = some (.slice a m k) := (hbel.cell (cell_under q4)).trans q4
      clear q0 q1 q2 q3 q4
      have hbA := hbel.alloc hbel.size (.cells #[.int .i64 f1, .int .i64 f2, .bool xb, .string s, .slice a m k] 27)
      have cP := hp1 _ hbA
      clear hp1
      cases hpi : p i with
      | false =>
        rw [hpi] at cP
        have eC : keptC p cs (i + 1) = keptC p cs i := by rw [keptC, if_neg (by simp [hpi]), List.append_nil]
        have eN : keptN p (i + 1) = keptN p i := by rw [keptN, if_neg (by simp [hpi]), Nat.add_zero]
        go_wp2_with (first
          | (go_at_call 99; refine cP.mono ?_; rintro e w2 ⟨rfl, hk2⟩)
          | go_in)
        have ho : w2.ownsRow w.heap.size 27 5 v (keptN p (i + 1)) (keptC p cs (i + 1)) := by rw [eC, eN]; exact owns_below (hown.alloc _) hk2
        have hb2 := hbA.trans (hk2.mono hbA.size)
        clear hown cP eC eN hk2 p0 p1 p2 p3 p4
        go_roundw
        case rel => exact ⟨i + 1, _, by omega, by go_num, rfl, ho, hb2⟩
        case measure => simp [numOf'] <;> omega
      | true =>
        rw [hpi] at cP
        have eC : keptC p cs (i + 1) = keptC p cs i ++ [.int .i64 f1, .int .i64 f2, .bool xb, .string s, .slice a m k] := by rw [keptC, if_pos hpi, e5]
        have eN : keptN p (i + 1) = keptN p i + 1 := by rw [keptN, if_pos hpi]
        go_wp2_with (first
          | (go_at_call 99; refine cP.mono ?_; rintro e w2 ⟨rfl, hk2⟩; have hx2 := (at_new _ _ _).below hk2 (at_new _ _ _).lt; obtain ⟨⟨x0, x1, x2, x3, x4⟩, -⟩ := box5 hx2; have own2 := owns_below (hown.alloc _) hk2)
          | (at_builtin; refine wpList_append_own _ rfl _ _ 22 rfl w.heap.size 27 i27 _ 5 64 underlying22 hi hz0 hz1 hz2 zz (by decide) _ _ _ rfl (own2.alloc _) ⟨w2.heap.size, 0, none⟩ 1 1 [.int .i64 f1, .int .i64 f2, .bool xb, .string s, .slice a m k] rfl rfl ?c1 ?c2 ?c3 ?c4 ?c5 ?_)
          | go_in)
        case c1 =>
          intro j u hj
          rw [add_adr, Nat.zero_add, cell_new _ _ _ _ rfl]
          simpa using hj
        case c2 => intro u hu; simp at hu; rcases hu with rfl | rfl | rfl | rfl | rfl <;> rfl
        case c3 => unfold maxLen; omega
        case c4 => omega
        case c5 => have := hbA.size; have := hk2.size; simp; omega
        intro v' w4 hown4 hgr4 _
        have hb2 := hbA.trans (hk2.mono hbA.size)
        have hb4 : Below w.heap.size w w4 := (hb2.alloc hb2.size _).grown hgr4 (by have := hb2.size; simp; omega) (fun q hq => (own2.lt q hq).1)
        have ho : w4.ownsRow w.heap.size 27 5 v' (keptN p (i + 1)) (keptC p cs (i + 1)) := by rw [eC, eN]; exact hown4
        clear hown4 hgr4 own2 hown hx2 x0 x1 x2 x3 x4 eC eN cP p0 p1 p2 p3 p4
        go_wp2
        go_roundw
        case rel => exact ⟨i + 1, _, by omega, by go_num, rfl, ho, hb4⟩
        case measure => simp [numOf'] <;> omega
    · obtain rfl : i = n := by omega
      clear hc hp
      go_wp2
      go_ret
      exact ⟨_, rfl, hown, hbel⟩
theorem kept100_0 (ad : Option Addr) (c : Nat) (w : World) : Calls prog 98 #[.slice ad 0 c, .func (.func 100) #[] #[]] w fun e w' => e = .returned (.slice none 0 0) ∧ Below w.heap.size w w' := by
  go_enter func98, ntmps98
  go_wp2
  refine wp_loop_rounds 1 ?_
  rw [rounds_succ]
  go_wp2
  go_ret
  exact ⟨rfl, Below.refl _ _⟩

set_option maxHeartbeats 1600000 in
theorem kept100_w {w : World} {n c b off : Nat} {cs : Nat → List Value} {p : Nat → Bool} (hn : n ≤ 1000000) (hnc : n ≤ c) (hc : ∀ i, i < n → ∃ f1 f2 xb s a m k, cs i = [.int .i64 f1, .int .i64 f2, .bool xb, .string s, .slice a m k] ∧ cellsAt w b (off + 5 * i) 5 = (cs i).map some)
    (hp : ∀ i, i < n → ∀ W, Below w.heap.size w W → Calls prog 100 #[.agg (cs i).toArray] W fun e w' => e = .returned (.bool (p i)) ∧ Below W.heap.size W w') :
    Calls prog 98 #[.slice (some ⟨b, off, none⟩) n c, .func (.func 100) #[] #[]] w fun e w' => ∃ v, e = .returned v ∧ w'.ownsRow w.heap.size 27 5 v (keptN p n) (keptC p cs n) ∧ Below w.heap.size w w' := by
  obtain ⟨i27, hi, hz0, hz1, hz2⟩ := info_more info27
  have zz : ((.agg #[.int .i64 0, .int .i64 0, .bool false, .string ⟨#[]⟩, .slice none 0 0] : Value)).cells.size = 5 := rfl
  go_enter func98, ntmps98
  go_wp2
  go_loopw [5, 10] (fun r s wr => ∃ (i : Nat) (v : Value), i ≤ n ∧ s = .int .i64 i ∧ v = r ∧ wr.ownsRow w.heap.size 27 5 v (keptN p i) (keptC p cs i) ∧ Below w.heap.size w wr) (fun _ s _ => n - (numOf' s).toNat)
  case atStart => exact ⟨0, _, Nat.zero_le _, rfl, rfl, World.ownsRow_nil _ _ _ _, Below.refl _ _⟩
  case round =>
    obtain ⟨i, v, hi', rfl, rfl, hown, hbel⟩ := hrel
    by_cases hin : i < n
    · obtain ⟨f1, f2, xb, s, a, m, k, e5, hcell⟩ := hc i hin
      have hp1 := hp i hin
      have hlen := keptN_le p i
      rw [e5] at hp1 hcell
      clear hc hp
      have e0 : off + 5 * i = off + i * 5 := by omega
      simp only [cellsAt, List.map_cons, List.map_nil, List.cons.injEq, and_true, e0] at hcell
      obtain ⟨q0, q1, q2, q3, q4⟩ := hcell
      have p0 : wr.cell? ⟨b, off + i * 5, none⟩ = some (.int .i64 f1) := (hbel.cell (cell_under q0)).trans q0
      have p1 : wr.cell? ⟨b, off + i * 5 + 1, none⟩ = some (.int .i64 f2) := (hbel.cell (cell_under q1)).trans q1
      have p2 : wr.cell? ⟨b, off + i * 5 + 2, none⟩ = some (.bool xb) := (hbel.cell (cell_under q2)).trans q2
      have p3 : wr.cell? ⟨b, off + i * 5 + 3, none⟩ = some (.string s) := (hbel.cell (cell_under q3)).trans q3
      have p4 : wr.cell? ⟨b, off + i * 5 + 4, none⟩ = some (.slice a m k) := (hbel.cell (cell_under q4)).trans q4
      clear q0 q1 q2 q3 q4
      have hbA := hbel.alloc hbel.size (.cells #[.int .i64 f1, .int .i64 f2, .bool xb, .string s, .slice a m k] 27)
      have cP := hp1 _ hbA
      clear hp1
      cases hpi : p i with
      | false =>
        rw [hpi] at cP
        have eC : keptC p cs (i + 1) = keptC p cs i := by rw [keptC, if_neg (by simp [hpi]), List.append_nil]
        have eN : keptN p (i + 1) = keptN p i := by rw [keptN, if_neg (by simp [hpi]), Nat.add_zero]
        go_wp2_with (first
          | (go_at_call 100; refine cP.mono ?_; rintro e w2 ⟨rfl, hk2⟩)
          | go_in)
        have ho : w2.ownsRow w.heap.size 27 5 v (keptN p (i + 1)) (keptC p cs (i + 1)) := by rw [eC, eN]; exact owns_below (hown.alloc _) hk2
        have hb2 := hbA.trans (hk2.mono hbA.size)
        clear hown cP eC eN hk2 p0 p1 p2 p3 p4
        go_roundw
        case rel => exact ⟨i + 1, _, by omega, by go_num, rfl, ho, hb2⟩
        case measure => simp [numOf'] <;> omega
      | true =>
        rw [hpi] at cP
        have eC : keptC p cs (i + 1) = keptC p cs i ++ [.int .i64 f1, .int .i64 f2, .bool xb, .string s, .slice a m k] := by rw [keptC, if_pos hpi, e5]
        have eN : keptN p (i + 1) = keptN p i + 1 := by rw [keptN, if_pos hpi]
        go_wp2_with (first
          | (go_at_call 100; refine cP.mono ?_; rintro e w2 ⟨rfl, hk2⟩; have hx2 := (at_new _ _ _).below hk2 (at_new _ _ _).lt; obtain ⟨⟨x0, x1, x2, x3, x4⟩, -⟩ := box5 hx2; have own2 := owns_below (hown.alloc _) hk2)
          | (at_builtin; refine wpList_append_own _ rfl _ _ 22 rfl w.heap.size 27 i27 _ 5 64 underlying22 hi hz0 hz1 hz2 zz (by decide) _ _ _ rfl (own2.alloc _) ⟨w2.heap.size, 0, none⟩ 1 1 [.int .i64 f1, .int .i64 f2, .bool xb, .string s, .slice a m k] rfl rfl ?c1 ?c2 ?c3 ?c4 ?c5 ?_)
          | go_in)
        case c1 =>
          intro j u hj
          rw [add_adr, Nat.zero_add, cell_new _ _ _ _ rfl]
          simpa using hj
        case c2 => intro u hu; simp at hu; rcases hu with rfl | rfl | rfl | rfl | rfl <;> rfl
        case c3 => unfold maxLen; omega
        case c4 => omega
        case c5 => have := hbA.size; have := hk2.size; simp; omega
        intro v' w4 hown4 hgr4 _
        have hb2 := hbA.trans (hk2.mono hbA.size)
        have hb4 : Below w.heap.size w w4 := (hb2.alloc hb2.size _).grown hgr4 (by have := hb2.size; simp; omega) (fun q hq => (own2.lt q hq).1)
        have ho : w4.ownsRow w.heap.size 27 5 v' (keptN p (i + 1)) (keptC p cs (i + 1)) := by rw [eC, eN]; exact hown4
        clear hown4 hgr4 own2 hown hx2 x0 x1 x2 x3 x4 eC eN cP p0 p1 p2 p3 p4
        go_wp2
        go_roundw
        case rel => exact ⟨i + 1, _, by omega, by go_num, rfl, ho, hb4⟩
        case measure => simp [numOf'] <;> omega
    · obtain rfl : i = n := by omega
      clear hc hp
      go_wp2
      go_ret
      exact ⟨_, rfl, hown, hbel⟩
theorem kept142_0 (ad : Option Addr) (c : Nat) (w : World) : Calls prog 98 #[.slice ad 0 c, .func (.func 142) #[] #[]] w fun e w' => e = .returned (.slice none 0 0) ∧ Below w.heap.size w w' := by
  go_enter func98, ntmps98
  go_wp2
  refine wp_loop_rounds 1 ?_
  rw [rounds_succ]
  go_wp2
  go_ret
  exact ⟨rfl, Below.refl _ _⟩

set_option maxHeartbeats 1600000 in
theorem kept142_w {w : World} {n c b off : Nat} {cs : Nat → List Value} {p : Nat → Bool} (hn : n ≤ 1000000) (hnc : n ≤ c) (hc : ∀ i, i < n → ∃ f1 f2 xb s a m k, cs i = [.int .i64 f1, .int .i64 f2, .bool xb, .string s, .slice a m k] ∧ cellsAt w b (off + 5 * i) 5 = (cs i).map some)
    (hp : ∀ i, i < n → ∀ W, Below w.heap.size w W → Calls prog 142 #[.agg (cs i).toArray] W fun e w' => e = .returned (.bool (p i)) ∧ Below W.heap.size W w') :
    Calls prog 98 #[.slice (some ⟨b, off, none⟩) n c, .func (.func 142) #[] #[]] w fun e w' => ∃ v, e = .returned v ∧ w'.ownsRow w.heap.size 27 5 v (keptN p n) (keptC p cs n) ∧ Below w.heap.size w w' := by
  obtain ⟨i27, hi, hz0, hz1, hz2⟩ := info_more info27
  have zz : ((.agg #[.int .i64 0, .int .i64 0, .bool false, .string ⟨#[]⟩, .slice none 0 0] : Value)).cells.size = 5 := rfl
  go_enter func98, ntmps98
  go_wp2
  go_loopw [5, 10] (fun r s wr => ∃ (i : Nat) (v : Value), i ≤ n ∧ s = .int .i64 i ∧ v = r ∧ wr.ownsRow w.heap.size 27 5 v (keptN p i) (keptC p cs i) ∧ Below w.heap.size w wr) (fun _ s _ => n - (numOf' s).toNat)
  case atStart => exact ⟨0, _, Nat.zero_le _, rfl, rfl, World.ownsRow_nil _ _ _ _, Below.refl _ _⟩
  case round =>
    obtain ⟨i, v, hi', rfl, rfl, hown, hbel⟩ := hrel
    by_cases hin : i < n
    · obtain ⟨f1, f2, xb, s, a, m, k, e5, hcell⟩ := hc i hin
      have hp1 := hp i hin
      have hlen := keptN_le p i
      rw [e5] at hp1 hcell
      clear hc hp
      have e0 : off + 5 * i = off + i * 5 := by omega
      simp only [cellsAt, List.map_cons, List.map_nil, List.cons.injEq, and_true, e0] at hcell
      obtain ⟨q0, q1, q2, q3, q4⟩ := hcell
      have p0 : wr.cell? ⟨b, off + i * 5, none⟩ = some (.int .i64 f1) := (hbel.cell (cell_under q0)).trans q0
      have p1 : wr.cell? ⟨b, off + i * 5 + 1, none⟩ = some (.int .i64 f2) := (hbel.cell (cell_under q1)).trans q1
      have p2 : wr.cell? ⟨b, off + i * 5 + 2, none⟩ = some (.bool xb) := (hbel.cell (cell_under q2)).trans q2
      have p3 : wr.cell? ⟨b, off + i * 5 + 3, none⟩ = some (.string s) := (hbel.cell (cell_under q3)).trans q3
      have p4 : wr.cell? ⟨b, off + i * 5 + 4, none⟩ = some (.slice a m k) := (hbel.cell (cell_under q4)).trans q4
      clear q0 q1 q2 q3 q4
      have hbA := hbel.alloc hbel.size (.cells #[.int .i64 f1, .int .i64 f2, .bool xb, .string s, .slice a m k] 27)
      have cP := hp1 _ hbA
      clear hp1
      cases hpi : p i with
      | false =>
        rw [hpi] at cP
        have eC : keptC p cs (i + 1) = keptC p cs i := by rw [keptC, if_neg (by simp [hpi]), List.append_nil]
        have eN : keptN p (i + 1) = keptN p i := by rw [keptN, if_neg (by simp [hpi]), Nat.add_zero]
        go_wp2_with (first
          | (go_at_call 142; refine cP.mono ?_; rintro e w2 ⟨rfl, hk2⟩)
          | go_in)
        have ho : w2.ownsRow w.heap.size 27 5 v (keptN p (i + 1)) (keptC p cs (i + 1)) := by rw [eC, eN]; exact owns_below (hown.alloc _) hk2
        have hb2 := hbA.trans (hk2.mono hbA.size)
        clear hown cP eC eN hk2 p0 p1 p2 p3 p4
        go_roundw
        case rel => exact ⟨i + 1, _, by omega, by go_num, rfl, ho, hb2⟩
        case measure => simp [numOf'] <;> omega
      | true =>
        rw [hpi] at cP
        have eC : keptC p cs (i + 1) = keptC p cs i ++ [.int .i64 f1, .int .i64 f2, .bool xb, .string s, .slice a m k] := by rw [keptC, if_pos hpi, e5]
        have eN : keptN p (i + 1) = keptN p i + 1 := by rw [keptN, if_pos hpi]
        go_wp2_with (first
          | (go_at_call 142; refine cP.mono ?_; rintro e w2 ⟨rfl, hk2⟩; have hx2 := (at_new _ _ _).below hk2 (at_new _ _ _).lt; obtain ⟨⟨x0, x1, x2, x3, x4⟩, -⟩ := box5 hx2; have own2 := owns_below (hown.alloc _) hk2)
          | (at_builtin; refine wpList_append_own _ rfl _ _ 22 rfl w.heap.size 27 i27 _ 5 64 underlying22 hi hz0 hz1 hz2 zz (by decide) _ _ _ rfl (own2.alloc _) ⟨w2.heap.size, 0, none⟩ 1 1 [.int .i64 f1, .int .i64 f2, .bool xb, .string s, .slice a m k] rfl rfl ?c1 ?c2 ?c3 ?c4 ?c5 ?_)
          | go_in)
        case c1 =>
          intro j u hj
          rw [add_adr, Nat.zero_add, cell_new _ _ _ _ rfl]
          simpa using hj
        case c2 => intro u hu; simp at hu; rcases hu with rfl | rfl | rfl | rfl | rfl <;> rfl
        case c3 => unfold maxLen; omega
        case c4 => omega
        case c5 => have := hbA.size; have := hk2.size; simp; omega
        intro v' w4 hown4 hgr4 _
        have hb2 := hbA.trans (hk2.mono hbA.size)
        have hb4 : Below w.heap.size w w4 := (hb2.alloc hb2.size _).grown hgr4 (by have := hb2.size; simp; omega) (fun q hq => (own2.lt q hq).1)
        have ho : w4.ownsRow w.heap.size 27 5 v' (keptN p (i + 1)) (keptC p cs (i + 1)) := by rw [eC, eN]; exact hown4
        clear hown4 hgr4 own2 hown hx2 x0 x1 x2 x3 x4 eC eN cP p0 p1 p2 p3 p4
        go_wp2
        go_roundw
        case rel => exact ⟨i + 1, _, by omega, by go_num, rfl, ho, hb4⟩
        case measure => simp [numOf'] <;> omega
    · obtain rfl : i = n := by omega
      clear hc hp
      go_wp2
      go_ret
      exact ⟨_, rfl, hown, hbel⟩
end Go.Proofs.Tryz

namespace Go.Proofs.Tryz
open Go Go.Am Go.RowKit Go.Dr
set_option maxRecDepth 100000

/-- The five cells of a move. -/
def csOf (w : World) (b off : Nat) (i : Nat) : List Value := (cellsAt w b (off + 5 * i) 5).filterMap id
theorem cs_of {w : World} {b off i : Nat} {m : MvD} (h : IsMv w (cellsAt w b (off + 5 * i) 5) m) : ∃ f1 f2 xb s a k c, csOf w b off i = [.int .i64 f1, .int .i64 f2, .bool xb, .string s, .slice a k c] ∧ cellsAt w b (off + 5 * i) 5 = (csOf w b off i).map some ∧
    m.fr = f1 ∧ m.to = f2 ∧ decide (m.x ≠ 0) = xb ∧ IsStr (.string s) m.y m.so m.sn ∧ IsInts w (.slice a k c) m.t m.bo m.bn := by
  obtain ⟨sv, bv, e, ⟨l, rfl, hl1, hl2⟩, hb⟩ := h
  have hb' := hb
  obtain ⟨a, k, c, rfl, -, -, -⟩ := hb
  have ec : csOf w b off i = [vi m.fr, vi m.to, .bool (decide (m.x ≠ 0)), .string ⟨l.toArray⟩, .slice a k c] := by unfold csOf; rw [e]; rfl
  exact ⟨_, _, _, _, a, k, c, ec, by rw [ec, e]; rfl, rfl, rfl, rfl, ⟨l, rfl, hl1, hl2⟩, hb'⟩

def sumK (f : MvD → Int) (d : Nat → MvD) : Nat → Int
  | 0 => 0
  | i + 1 => sumK f d i + f (d i)
def outQ (m : MvD) : Bool := decide (m.x ≠ 0)
def runQ (m : MvD) : Bool := decide (m.x = 0) && decide (m.to = 4)
def one (q : MvD → Bool) (m : MvD) : Int := if q m = true then 1 else 0
def adv (m : MvD) : Int := if m.x = 0 then m.to - m.fr else 0
theorem keptN_sum (q : MvD → Bool) (d : Nat → MvD) : ∀ i, (keptN (fun j => q (d j)) i : Int) = sumK (one q) d i
  | 0 => rfl
  | i + 1 => by
    have := keptN_sum q d i
    rw [keptN, sumK, one]
    split <;> omega

theorem out99 (f1 f2 : Int) (xb : Bool) (s : ByteArray) (a : Option Addr) (k c : Nat) (W : World) : Calls prog 99 #[.agg #[.int .i64 f1, .int .i64 f2, .bool xb, .string s, .slice a k c]] W fun e w' => e = .returned (.bool xb) ∧ Below W.heap.size W w' := by
  go_enter func99, ntmps99
  go_wp2
  go_ret
  exact ⟨rfl, (Below.refl _ _).alloc (Nat.le_refl _) _⟩
theorem run100 (f1 f2 : Int) (xb : Bool) (s : ByteArray) (a : Option Addr) (k c : Nat) (W : World) : Calls prog 100 #[.agg #[.int .i64 f1, .int .i64 f2, .bool xb, .string s, .slice a k c]] W fun e w' => e = .returned (.bool (!xb && decide (f2 = 4))) ∧ Below W.heap.size W w' := by
  cases xb with
  | true =>
    go_enter func100, ntmps100
    go_wp2
    go_ret
    exact ⟨rfl, (Below.refl _ _).alloc (Nat.le_refl _) _⟩
  | false =>
    by_cases h : f2 = 4
    · subst h
      go_enter func100, ntmps100
      go_wp2
      go_ret
      exact ⟨rfl, (Below.refl _ _).alloc (Nat.le_refl _) _⟩
    · go_enter func100, ntmps100
      go_wp2
      go_ret
      exact ⟨by simp [h], (Below.refl _ _).alloc (Nat.le_refl _) _⟩

theorem owns_len {w : World} {base : Nat} {v : Value} {m : Nat} {xs : List Value} (h : w.ownsRow base 27 5 v m xs) : ∃ a k, Ending.returned v = .returned (.slice a m k) := by
  rcases h.2 with ⟨rfl, h2⟩ | ⟨g, cap, cur, rfl, -⟩
  · have h1 := h.1
    rw [h2] at h1
    have e0 : m = 0 := by simp at h1; omega
    exact ⟨none, 0, by rw [e0]⟩
  · exact ⟨_, _, rfl⟩

section
variable {w : World} {n c : Nat} {ad : Option Addr} {d : Nat → MvD}
theorem keptOut_w (hm : IsMoves w (.slice ad n c) d n) (hn : n ≤ 1000000) : Calls prog 98 #[.slice ad n c, .func (.func 99) #[] #[]] w fun e w' => (∃ a k, e = .returned (.slice a (keptN (fun j => outQ (d j)) n) k)) ∧ Below w.heap.size w w' := by
  obtain ⟨a1, c1, e1, hnc, hM0⟩ := hm
  simp only [Value.slice.injEq, true_and] at e1
  obtain ⟨rfl, rfl⟩ := e1
  by_cases h0 : n = 0
  · subst h0
    refine (kept99_0 _ _ _).mono ?_
    rintro e w' ⟨rfl, hB⟩
    exact ⟨⟨_, _, rfl⟩, hB⟩
  obtain ⟨b, off, rfl, hM⟩ := hM0 h0
  refine (kept99_w (cs := csOf w b off) (p := fun j => outQ (d j)) hn hnc (fun i hi => let ⟨f1, f2, xb, s, a, k, c, e1, e2, _⟩ := cs_of (hM i hi); ⟨f1, f2, xb, s, a, k, c, e1, e2⟩) (fun i hi W _ => ?_)).mono ?_
  · obtain ⟨f1, f2, xb, s, a, k, c, e1, -, -, -, ex, -⟩ := cs_of (hM i hi)
    rw [e1]
    have := out99 f1 f2 xb s a k c W
    rw [← ex] at this ⊢; exact this
  · rintro e w' ⟨v, rfl, ho, hB⟩
    refine ⟨?_, hB⟩
    exact owns_len ho
theorem keptRun_w (hm : IsMoves w (.slice ad n c) d n) (hn : n ≤ 1000000) : Calls prog 98 #[.slice ad n c, .func (.func 100) #[] #[]] w fun e w' => (∃ a k, e = .returned (.slice a (keptN (fun j => runQ (d j)) n) k)) ∧ Below w.heap.size w w' := by
  obtain ⟨a1, c1, e1, hnc, hM0⟩ := hm
  simp only [Value.slice.injEq, true_and] at e1
  obtain ⟨rfl, rfl⟩ := e1
  by_cases h0 : n = 0
  · subst h0
    refine (kept100_0 _ _ _).mono ?_
    rintro e w' ⟨rfl, hB⟩
    exact ⟨⟨_, _, rfl⟩, hB⟩
  obtain ⟨b, off, rfl, hM⟩ := hM0 h0
  refine (kept100_w (cs := csOf w b off) (p := fun j => runQ (d j)) hn hnc (fun i hi => let ⟨f1, f2, xb, s, a, k, c, e1, e2, _⟩ := cs_of (hM i hi); ⟨f1, f2, xb, s, a, k, c, e1, e2⟩) (fun i hi W _ => ?_)).mono ?_
  · obtain ⟨f1, f2, xb, s, a, k, c, e1, -, -, et, ex, -⟩ := cs_of (hM i hi)
    rw [e1]
    have := run100 f1 f2 xb s a k c W
    have eq : runQ (d i) = (!xb && decide (f2 = 4)) := by unfold runQ; rw [← et, ← ex]; simp
    rw [eq]; exact this
  · rintro e w' ⟨v, rfl, ho, hB⟩
    refine ⟨?_, hB⟩
    exact owns_len ho

/-- A number of a play, or its error. -/
def NumW (pl r : Int) (e : Ending) : Prop := e = .returned (.tuple #[.int .i64 (if pl = 0 then r else 0), .int .i64 pl])
theorem outs_w {pl : Int} {lx : Bool} {pvv ev : Value} (hc : Chk w (.agg #[pvv, ev, .bool lx, .slice ad n c]) pl) (hm : IsMoves w (.slice ad n c) d n) (hn : n ≤ 1000000) :
    Calls prog 45 #[.agg #[pvv, ev, .bool lx, .slice ad n c]] w fun e w' => NumW pl (sumK (one outQ) d n) e ∧ Below w.heap.size w w' := by
  have hB : Below w.heap.size w (w.alloc (.cells #[pvv, ev, .bool lx, .slice ad n c] 24)) := (Below.refl _ _).alloc (Nat.le_refl _) _
  have cC := hc _ hB
  by_cases h : pl = 0
  · subst h
    have es := keptN_sum outQ d n
    go_enter func45, ntmps45
    go_wp2_with fail
    go_at_call 15
    refine cC.mono ?_
    rintro e w2 ⟨rfl, hk2⟩
    have hx2 := (at_new _ _ _).below hk2 (at_new _ _ _).lt
    obtain ⟨⟨x0, x1, x2, x3⟩, -⟩ := box4 hx2
    have hb2 := hB.trans (hk2.mono (by simp))
    have cK := keptOut_w (hm.below hb2) hn
    have Hs : Hid ((keptN (fun j => outQ (d j)) n : Int) = sumK (one outQ) d n) := Lib.hid es
    clear es hc cC hm
    go_wp2_with fail
    go_at_call 98
    refine cK.mono ?_
    rintro e w3 ⟨⟨a, k, rfl⟩, hk3⟩
    go_wp2
    go_ret2
    exact ⟨by unfold NumW; rw [if_pos rfl, ← Hs.out]; rfl, hb2.trans (hk3.mono hb2.size)⟩
  · clear hm
    go_enter func45, ntmps45
    go_wp2_with fail
    go_at_call 15
    refine cC.mono ?_
    rintro e w2 ⟨rfl, hk2⟩
    go_wp2
    go_ret2
    exact ⟨by unfold NumW; rw [if_neg h]; rfl, hB.trans (hk2.mono (by simp))⟩
theorem runs_w {pl : Int} {lx : Bool} {pvv ev : Value} (hc : Chk w (.agg #[pvv, ev, .bool lx, .slice ad n c]) pl) (hm : IsMoves w (.slice ad n c) d n) (hn : n ≤ 1000000) :
    Calls prog 46 #[.agg #[pvv, ev, .bool lx, .slice ad n c]] w fun e w' => NumW pl (sumK (one runQ) d n) e ∧ Below w.heap.size w w' := by
  have hB : Below w.heap.size w (w.alloc (.cells #[pvv, ev, .bool lx, .slice ad n c] 24)) := (Below.refl _ _).alloc (Nat.le_refl _) _
  have cC := hc _ hB
  by_cases h : pl = 0
  · subst h
    have es := keptN_sum runQ d n
    go_enter func46, ntmps46
    go_wp2_with fail
    go_at_call 15
    refine cC.mono ?_
    rintro e w2 ⟨rfl, hk2⟩
    have hx2 := (at_new _ _ _).below hk2 (at_new _ _ _).lt
    obtain ⟨⟨x0, x1, x2, x3⟩, -⟩ := box4 hx2
    have hb2 := hB.trans (hk2.mono (by simp))
    have cK := keptRun_w (hm.below hb2) hn
    have Hs : Hid ((keptN (fun j => runQ (d j)) n : Int) = sumK (one runQ) d n) := Lib.hid es
    clear es hc cC hm
    go_wp2_with fail
    go_at_call 98
    refine cK.mono ?_
    rintro e w3 ⟨⟨a, k, rfl⟩, hk3⟩
    go_wp2
    go_ret2
    exact ⟨by unfold NumW; rw [if_pos rfl, ← Hs.out]; rfl, hb2.trans (hk3.mono hb2.size)⟩
  · clear hm
    go_enter func46, ntmps46
    go_wp2_with fail
    go_at_call 15
    refine cC.mono ?_
    rintro e w2 ⟨rfl, hk2⟩
    go_wp2
    go_ret2
    exact ⟨by unfold NumW; rw [if_neg h]; rfl, hB.trans (hk2.mono (by simp))⟩

set_option maxHeartbeats 1600000 in
theorem adv_w {pl : Int} {lx : Bool} {pvv ev : Value} (hc : Chk w (.agg #[pvv, ev, .bool lx, .slice ad n c]) pl) (hm : IsMoves w (.slice ad n c) d n) (hv : pl = 0 → n ≤ 4 ∧ ∀ i, i < n → (0 ≤ (d i).fr ∧ (d i).fr ≤ 3) ∧ 1 ≤ (d i).to ∧ (d i).to ≤ 4) :
    Calls prog 47 #[.agg #[pvv, ev, .bool lx, .slice ad n c]] w fun e w' => NumW pl (sumK adv d n) e ∧ Below w.heap.size w w' := by
  have hB : Below w.heap.size w (w.alloc (.cells #[pvv, ev, .bool lx, .slice ad n c] 24)) := (Below.refl _ _).alloc (Nat.le_refl _) _
  have cC := hc _ hB
  by_cases h : pl = 0
  · subst h
    obtain ⟨hn4, hr⟩ := hv rfl
    obtain ⟨a1, c1, e1, hnc, hM0⟩ := hm
    simp only [Value.slice.injEq, true_and] at e1
    obtain ⟨rfl, rfl⟩ := e1
    clear hc hv
    go_enter func47, ntmps47
    go_wp2_with fail
    go_at_call 15
    refine cC.mono ?_
    rintro e w2 ⟨rfl, hk2⟩
    have hx2 := (at_new _ _ _).below hk2 (at_new _ _ _).lt
    obtain ⟨⟨x0, x1, x2, x3⟩, -⟩ := box4 hx2
    have hb2 := hB.trans (hk2.mono (by simp))
    go_wp2_with fail
    go_loopw [5, 16] (fun r s wr => ∃ i : Nat, i ≤ n ∧ s = .int .i64 i ∧ r = .int .i64 (sumK adv d i) ∧ (-(4 * (i : Int)) ≤ sumK adv d i ∧ sumK adv d i ≤ 4 * i) ∧ Below w.heap.size w wr) (fun _ s _ => n - (numOf' s).toNat)
    case atStart => exact ⟨0, Nat.zero_le _, rfl, rfl, ⟨by simp [sumK], by simp [sumK]⟩, hb2⟩
    case round =>
      clear hk2 hx2 x0 x1 x2 x3 hb2
      obtain ⟨i, hi, rfl, rfl, hsb, hbel⟩ := hrel
      by_cases hin : i < n
      · obtain ⟨b, off, rfl, hM⟩ := hM0 (by omega)
        obtain ⟨s, ad, m, cc, hmv⟩ := mv_at ((hM i hin).below hbel)
        obtain ⟨p0, p1, p2, p3, p4, -, -, -, -⟩ := hmv
        obtain ⟨⟨r0, r1⟩, r2, r3⟩ := hr i hin
        have eS : sumK adv d (i + 1) = sumK adv d i + adv (d i) := rfl
        have eA : adv (d i) = if (d i).x = 0 then (d i).to - (d i).fr else 0 := rfl
        obtain ⟨f1, hf1⟩ : ∃ f1, (d i).fr = f1 := ⟨_, rfl⟩
        obtain ⟨f2, hf2⟩ : ∃ f2, (d i).to = f2 := ⟨_, rfl⟩
        obtain ⟨S, hS⟩ : ∃ S, sumK adv d i = S := ⟨_, rfl⟩
        rw [hf1] at p0 r0 r1 eA
        rw [hf2] at p1 r2 r3 eA
        rw [hS] at hsb eS ⊢
        clear hM hM0 hr hf1 hf2 hS
        by_cases hx : (d i).x = 0
        · have hxb : decide ((d i).x ≠ 0) = false := by simp [hx]
          rw [hxb] at p2
          rw [if_pos hx] at eA
          rw [eA] at eS
          have HS : Hid (sumK adv d (i + 1) = S + (f2 - f1)) := Lib.hid eS
          clear eS eA hx hxb
          go_wp2
          go_roundw
          case rel => exact ⟨i + 1, by omega, by go_num, by rw [HS.out], by rw [HS.out]; constructor <;> omega, hbel.alloc hbel.size _⟩
          case measure => simp [numOf'] <;> omega
        · have hxb : decide ((d i).x ≠ 0) = true := by simp [hx]
          rw [hxb] at p2
          rw [if_neg hx] at eA
          rw [eA] at eS
          have HS : Hid (sumK adv d (i + 1) = S + 0) := Lib.hid eS
          clear eS eA hx hxb
          go_wp2
          go_roundw
          case rel => exact ⟨i + 1, by omega, by go_num, by rw [HS.out, Int.add_zero], by rw [HS.out]; constructor <;> omega, hbel.alloc hbel.size _⟩
          case measure => simp [numOf'] <;> omega
      · obtain rfl : i = n := by omega
        clear hM0 hr
        go_wp2
        go_ret2
        exact ⟨by unfold NumW; rw [if_pos rfl]; rfl, hbel⟩
  · clear hm hv
    go_enter func47, ntmps47
    go_wp2_with fail
    go_at_call 15
    refine cC.mono ?_
    rintro e w2 ⟨rfl, hk2⟩
    go_wp2
    go_ret2
    exact ⟨by unfold NumW; rw [if_neg h]; rfl, hB.trans (hk2.mono (by simp))⟩
end
end Go.Proofs.Tryz

namespace Go.Proofs.Tryz
open Go Go.Am Go.RowKit Go.Dr
set_option maxRecDepth 100000

theorem mvs_desc (d : Nat → MvD) : ∀ (n i : Nat), mvsV d n i = 0 → ∀ j, i ≤ j → j < i + n → 0 < j → (d j).fr < (d (j - 1)).fr
  | 0, i, _, j, h1, h2, _ => by omega
  | n + 1, i, h, j, h1, h2, h3 => by
    unfold mvsV at h
    by_cases hc : (d i).check = 0
    · rw [if_pos hc] at h
      by_cases ho : 0 < i ∧ (d (i - 1)).fr ≤ (d i).fr
      · rw [if_pos ho] at h; cases h
      · rw [if_neg ho] at h
        by_cases hj : j = i
        · subst hj
          have : ¬ (d (j - 1)).fr ≤ (d j).fr := fun q => ho ⟨h3, q⟩
          omega
        · exact mvs_desc d n (i + 1) h j (by omega) (by omega) h3
    · rw [if_neg hc] at h; exact absurd h hc

/-- All that is known of the moves of a valid play. -/
structure ValP (d : Nat → MvD) (n : Nat) : Prop where
  v : Val d n
  to : ∀ i, i < n → 1 ≤ (d i).to ∧ (d i).to ≤ 4
  desc : ∀ i j, i < j → j < n → (d j).fr < (d i).fr
theorem valP_of {y0 y1 : Int → Int} {yo yn eo en : Int} {d : Nat → MvD} {n : Nat} (h : plV y0 yo yn y1 eo en d n = 0) (hb : ∀ i, i < n → 0 ≤ (d i).bn) : ValP d n := by
  obtain ⟨h1, h2⟩ := val_of h hb
  refine ⟨h1, h2, ?_⟩
  unfold plV at h
  by_cases p1 : pitV y0 yo yn = 0
  case neg => rw [if_neg p1] at h; exact absurd h p1
  rw [if_pos p1] at h
  by_cases p2 : evOk y1 eo en = true
  case neg => rw [if_neg p2] at h; cases h
  rw [if_pos p2, if_pos h1.n4] at h
  have hd := mvs_desc d n 0 h
  intro i j hij hj
  induction j with
  | zero => omega
  | succ j ih =>
    have a := hd (j + 1) (Nat.zero_le _) (by omega) (by omega)
    simp only [Nat.add_sub_cancel] at a
    by_cases e : i = j
    · subst e; exact a
    · have := ih (by omega) (by omega); omega
theorem asked_at {d : Nat → MvD} {n i : Nat} (hv : ValP d n) (hi : i < n) : Asked 0 (d i).fr d n 0 (d i) :=
  .inr (.inr ⟨by unfold oneV; rw [if_pos rfl, if_pos (hv.v.fr i hi)], rfl, i, hi, rfl, rfl, fun j hj => by have := hv.desc j i hj hi; omega⟩)

/-! ### the putouts -/
theorem putK_pre (d : Nat → MvD) (i : Nat) : ∀ n, i ≤ n → ∃ r, putK d n = putK d i ++ r
  | 0, h => ⟨[], by rw [show i = 0 by omega, List.append_nil]⟩
  | n + 1, h => by
    by_cases e : i = n + 1
    · subst e; exact ⟨[], (List.append_nil _).symm⟩
    · obtain ⟨r, hr⟩ := putK_pre d i n (by omega)
      exact ⟨r ++ _, by rw [putK, hr, List.append_assoc]⟩
theorem putK_at {d : Nat → MvD} {n i : Nat} (hi : i < n) (hx : (d i).x ≠ 0) : (putK d n)[(putK d i).length]? = some (lastT (d i)) := by
  obtain ⟨r, hr⟩ := putK_pre d (i + 1) n hi
  rw [hr, putK, if_neg hx]
  simp
theorem putK_len (d : Nat → MvD) : ∀ i, ((putK d i).length : Int) = sumK (one outQ) d i
  | 0 => rfl
  | i + 1 => by
    have := putK_len d i
    rw [putK, sumK, List.length_append, one, outQ]
    by_cases h : (d i).x = 0
    · simp [h]; omega
    · simp [h]; omega

/-! ### the assists -/
theorem hasB_tl (L : List Int) (x : Int) : ∀ k, k ≤ L.length → hasB (tl L) 0 x k = decide (x ∈ L.take k)
  | 0, _ => by simp [hasB]
  | k + 1, h => by
    have ih := hasB_tl L x k (by omega)
    have e : tl L (0 + (k : Int)) = L[k] := by
      unfold tl
      rw [show (0 + (k : Int)).toNat = k by omega, List.getElem?_eq_getElem (by omega)]; rfl
    rw [hasB, ih, e, List.take_succ_eq_append_getElem (by omega)]
    simp only [List.mem_append, List.mem_singleton]
    by_cases h1 : x ∈ L.take k
    · simp [h1]
    · by_cases h2 : L[k] = x
      · simp [h2]
      · have : ¬ x = L[k] := fun q => h2 q.symm
        simp [h1, h2, this]
theorem hasB_all (L : List Int) (x : Int) : hasB (tl L) 0 x L.length = decide (x ∈ L) := by
  rw [hasB_tl L x L.length (Nat.le_refl _), List.take_length]
theorem hasB_idx {t : Int → Int} {o : Int} {m j : Nat} (h : j < m) : hasB t o (t (o + (j : Int))) m = true := hasB_mono (k := j + 1) (by omega) (by simp [hasB])
theorem last_notin {m : MvD} : lastT m ∉ asL m.t m.bo m.bn.toNat := fun h => by
  have := (mem_asK m.t m.bo m.bn.toNat (lastT m) 9).1 h
  exact this.2.2.1 rfl
theorem in_asL {m : MvD} {j : Nat} (hj : j < m.bn.toNat) (hr : 1 ≤ m.t (m.bo + j) ∧ m.t (m.bo + j) ≤ 9) (hne : m.t (m.bo + j) ≠ lastT m) : m.t (m.bo + j) ∈ asL m.t m.bo m.bn.toNat :=
  (mem_asK m.t m.bo m.bn.toNat _ 9).2 ⟨hr.1, by omega, hne, hasB_idx hj⟩
theorem asL_has {m : MvD} {x : Int} (h : x ∈ asL m.t m.bo m.bn.toNat) : hasB m.t m.bo x m.bn.toNat = true := ((mem_asK m.t m.bo m.bn.toNat x 9).1 h).2.2.2
theorem asL_asc {m : MvD} {i : Nat} {a b : Int} (h1 : (asL m.t m.bo m.bn.toNat)[i]? = some a) (h2 : (asL m.t m.bo m.bn.toNat)[i + 1]? = some b) : a < b := by
  have hp := sort_asK m.t m.bo m.bn.toNat 9
  obtain ⟨l1, e1⟩ := List.getElem?_eq_some_iff.1 h1
  obtain ⟨l2, e2⟩ := List.getElem?_eq_some_iff.1 h2
  have := List.pairwise_iff_getElem.1 hp i (i + 1) l1 l2 (by omega)
  subst e1 e2
  exact this

/-! ### the touches -/
def sumL : List Int → Int
  | [] => 0
  | x :: l => x + sumL l
theorem sumL_set : ∀ (l : List Int) (k : Nat), k < l.length → sumL (l.set k (l[k]?.getD 0 + 1)) = sumL l + 1
  | [], k, h => absurd h (Nat.not_lt_zero _)
  | x :: l, 0, _ => by simp [sumL]; omega
  | x :: l, k + 1, h => by
    have := sumL_set l k (by simpa using h)
    simp only [List.set_cons_succ, List.getElem?_cons_succ, sumL]
    omega
theorem sumL_addT {l : List Int} {x : Int} (h : l.length = 9) (h1 : 1 ≤ x) (h9 : x ≤ 9) : sumL (addT l x) = sumL l + 1 := sumL_set l _ (by omega)
theorem sumL_innT {m : MvD} {l : List Int} (h : l.length = 9) : ∀ k : Nat, (∀ j : Nat, j < k → 1 ≤ m.t (m.bo + j) ∧ m.t (m.bo + j) ≤ 9) → sumL (innT m l k) = sumL l + k
  | 0, _ => by simp [innT]
  | k + 1, ht => by
    have ih := sumL_innT h k fun j hj => ht j (by omega)
    rw [innT, sumL_addT (by rw [length_innT, h]) (ht k (by omega)).1 (ht k (by omega)).2, ih]
    omega
theorem sumL_outT {d : Nat → MvD} {n : Nat} (hv : Val d n) : ∀ i, i ≤ n → sumL (outT d i) = sumK (fun m => m.bn) d i
  | 0, _ => rfl
  | i + 1, h => by
    have hb := hv.bn i (by omega)
    have := sumL_innT (m := d i) (length_outT d i) (d i).bn.toNat fun j hj => hv.t i (by omega) j (by omega)
    rw [outT, this, sumL_outT hv i (by omega), sumK]
    omega
theorem tch_range {d : Nat → MvD} {n : Nat} (hv : Val d n) : ∀ x, x ∈ tchL d n → 0 ≤ x ∧ x ≤ 36 := fun x hx => by
  obtain ⟨j, hj⟩ := List.mem_iff_getElem?.1 hx
  have := Upto.out hv n (Nat.le_refl _) j x hj
  have := hv.n4
  omega
end Go.Proofs.Tryz
