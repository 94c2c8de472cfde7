/- Short as a statement, Touches of whatever play, awake: by the kit's walk. -/
import Derived.Test.YthlmjjdlmidnlaaGreatDoorArVi
import Derived.Test.YthlmjjdlmidnlaaGreatDoorArZc
namespace Go.Proofs.Tryz
open Go Go.Am Go.RowKit Go.Dr
set_option maxRecDepth 100000

theorem kept_of {w w' : World} (h : Below w.heap.size w w') : Kept w w' := ⟨h.os, h.tape, h.output, h.size, h.block⟩

/-- A play that Short takes. -/
def ShortP (yn en : Int) (d : Nat → MvD) (n : Nat) : Prop := yn ≤ 26 ∧ en ≤ 20 ∧ n ≤ 6 ∧ ∀ i, i < n → (d i).sn ≤ 20 ∧ (d i).bn ≤ 40
def ShortR (yn en : Int) (d : Nat → MvD) (n : Nat) (e : Ending) : Prop := ∃ r : Bool, e = .returned (.bool r) ∧ (r = true ↔ ShortP yn en d n)
theorem str_size {s : ByteArray} {y : Int → Int} {o n : Int} (h : IsStr (.string s) y o n) : (s.size : Int) = n := by
  obtain ⟨l, e, h1, -⟩ := h
  cases e
  rw [← h1]
  show ((l.toArray.size : Nat) : Int) = _
  simp

section
variable {w : World} {y0 y1 : Int → Int} {yo yn eo en : Int} {lx : Bool} {d : Nat → MvD} {n : Nat} {s1 s2 : ByteArray} {mv : Value}
theorem shortR_w (hp : IsStr (.string s1) y0 yo yn) (he : IsStr (.string s2) y1 eo en) (hm : IsMoves w mv d n) :
    Calls prog 14 #[.agg #[.string s1, .string s2, .bool lx, mv]] w fun e w' => ShortR yn en d n e ∧ Below w.heap.size w w' := by
  have e1 := str_size hp
  have e2 := str_size he
  obtain ⟨ad0, c0, rfl, hnc, hM0⟩ := hm
  have al := (Below.refl w.heap.size w).alloc (Nat.le_refl _) (.cells #[.string s1, .string s2, .bool lx, .slice ad0 n c0] 24)
  by_cases h1 : (26 : Int) < (s1.size : Int)
  · have hno : ¬ ShortP yn en d n := fun h => by have := h.1; omega
    clear e1 e2
    go_enter func14, ntmps14
    go_wp2
    go_ret
    exact ⟨⟨false, rfl, fun h => (by cases h), fun h => absurd h hno⟩, al⟩
  by_cases h2 : (20 : Int) < (s2.size : Int)
  · have hno : ¬ ShortP yn en d n := fun h => by have := h.2.1; omega
    clear e1 e2
    go_enter func14, ntmps14
    go_wp2
    go_ret
    exact ⟨⟨false, rfl, fun h => (by cases h), fun h => absurd h hno⟩, al⟩
  by_cases h3 : (6 : Int) < (n : Int)
  · have hno : ¬ ShortP yn en d n := fun h => by have := h.2.2.1; omega
    clear e1 e2
    go_enter func14, ntmps14
    go_wp2
    go_ret
    exact ⟨⟨false, rfl, fun h => (by cases h), fun h => absurd h hno⟩, al⟩
  have h12 : yn ≤ 26 ∧ en ≤ 20 := ⟨by omega, by omega⟩
  clear e1 e2
  go_enter func14, ntmps14
  go_wp2
  go_loopw [2, 3] (fun r s wr => ∃ i : Nat, i ≤ n ∧ s = .int .i64 i ∧ r = .bool false ∧ (∀ j, j < i → (d j).sn ≤ 20 ∧ (d j).bn ≤ 40) ∧ At wr w.heap.size #[.string s1, .string s2, .bool lx, .slice ad0 n c0] 24 ∧ Below w.heap.size w wr) (fun _ s _ => n - (numOf' s).toNat)
  case atStart => exact ⟨0, Nat.zero_le _, rfl, rfl, fun j hj => by omega, at_new _ _ _, al⟩
  case round =>
    obtain ⟨i, hi, rfl, rfl, hall, hbox, hbel⟩ := hrel
    have hc3 : wr.cell? ⟨w.heap.size, 3, none⟩ = some (.slice ad0 n c0) := (box4 hbox).1.2.2.2
    by_cases hin : i < n
    · obtain ⟨b, off, rfl, hM⟩ := hM0 (by omega)
      obtain ⟨s, ad, m, c, hmv⟩ := mv_at ((hM i hin).below hbel)
      obtain ⟨p0, p1, p2, p3, p4, hs, -, hbn, -⟩ := hmv
      have hsn := str_size hs
      clear hM hM0 p0 p1 p2 hs
      by_cases h4 : (20 : Int) < (s.size : Int)
      · have hno : ¬ ShortP yn en d n := fun h => by have := (h.2.2.2 i hin).1; omega
        clear hsn hbn
        go_wp2
        go_ret
        exact ⟨⟨false, rfl, fun h => (by cases h), fun h => absurd h hno⟩, hbel⟩
      by_cases h5 : (40 : Int) < (m : Int)
      · have hno : ¬ ShortP yn en d n := fun h => by have := (h.2.2.2 i hin).2; omega
        clear hsn hbn
        go_wp2
        go_ret
        exact ⟨⟨false, rfl, fun h => (by cases h), fun h => absurd h hno⟩, hbel⟩
      have hall' : ∀ j, j < i + 1 → (d j).sn ≤ 20 ∧ (d j).bn ≤ 40 := fun j hj => by
        by_cases hji : j = i
        · subst hji; exact ⟨by omega, by omega⟩
        · exact hall j (by omega)
      clear hsn hbn hall
      go_wp2
      go_roundw
      case rel => exact ⟨i + 1, by omega, by go_num, rfl, hall', hbox, hbel⟩
      case measure => simp [numOf'] <;> omega
    · have hin' : i = n := by omega
      subst hin'
      clear hM0
      go_wp2
      go_ret
      exact ⟨⟨true, rfl, fun _ => ⟨h12.1, h12.2, by omega, hall⟩, fun _ => rfl⟩, hbel⟩
theorem short_yes (hp : IsStr (.string s1) y0 yo yn) (he : IsStr (.string s2) y1 eo en) (hm : IsMoves w mv d n) (h : ShortP yn en d n) :
    Calls prog 14 #[.agg #[.string s1, .string s2, .bool lx, mv]] w fun e w' => e = .returned (.bool true) ∧ Below w.heap.size w w' := by
  refine (shortR_w hp he hm).mono ?_
  rintro e w' ⟨⟨r, rfl, hr⟩, hB⟩
  exact ⟨by rw [hr.2 h], hB⟩
theorem short_no (hp : IsStr (.string s1) y0 yo yn) (he : IsStr (.string s2) y1 eo en) (hm : IsMoves w mv d n) (h : ¬ ShortP yn en d n) :
    Calls prog 14 #[.agg #[.string s1, .string s2, .bool lx, mv]] w fun e w' => e = .returned (.bool false) ∧ Below w.heap.size w w' := by
  refine (shortR_w hp he hm).mono ?_
  rintro e w' ⟨⟨r, rfl, hr⟩, hB⟩
  cases r with
  | false => exact ⟨rfl, hB⟩
  | true => exact absurd (hr.1 rfl) h
end

theorem hasB13 : f13.body.isSome = true := by kernel_rfl
theorem fn13 : cx.fn 13 = some f13 := by kernel_rfl
theorem awake_w {w : World} (h : Laid w) : Calls prog 13 #[] w fun e w' => e = .returned (.bool true) ∧ Below w.heap.size w w' := by
  obtain ⟨c, hc⟩ := Option.isSome_iff_exists.1 hasB13
  refine (CallRet.calls fn13 hc (awake h)).mono ?_
  rintro e w' ⟨v, rfl, rfl, hk⟩
  exact ⟨rfl, belowOf hk⟩

/-- How often each fielder touched the ball; nothing if the play is wrong. -/
def tchP (pl : Int) (d : Nat → MvD) (n : Nat) : List Int := if pl = 0 then tchL d n else List.replicate 9 0
theorem length_tchP (pl : Int) (d : Nat → MvD) (n : Nat) : (tchP pl d n).length = 9 := by
  unfold tchP; split
  · exact length_outT d n
  · rfl
section
variable {w : World} {pl : Int} {lx : Bool} {pvv ev : Value} {ad0 : Option Addr} {n c : Nat}
theorem touch_bad (hc : Chk w (.agg #[pvv, ev, .bool lx, .slice ad0 n c]) pl) (hne : ¬ pl = 0) :
    Calls prog 27 #[.agg #[pvv, ev, .bool lx, .slice ad0 n c]] w fun e w' => e = .returned (.tuple #[.agg (cntA (List.replicate 9 0)), .int .i64 pl]) ∧ Below w.heap.size w w' := by
  have hB : Below w.heap.size w ((w.alloc (.cells #[pvv, ev, .bool lx, .slice ad0 n c] 24)).alloc (.cells #[.int .i64 0, .int .i64 0, .int .i64 0, .int .i64 0, .int .i64 0, .int .i64 0, .int .i64 0, .int .i64 0, .int .i64 0] 49)) := ((Below.refl _ _).alloc (Nat.le_refl _) _).alloc (by simp) _
  have cC := hc _ hB
  clear hc
  go_enter func27, ntmps27
  go_wp2_with (first
    | (go_at_call 15; refine cC.mono ?_; rintro e w2 ⟨rfl, hk2⟩; have hr1 := (at2_1 _ _ _ _ _).below hk2 (by rw [size2]; omega); have rr : ∀ j, j < 9 → w2.cell? ⟨w.heap.size + 1, j, none⟩ = some (.int .i64 0) ∧ w2.frozen? ⟨w.heap.size + 1, j, none⟩ = false := fun j hj => (by unfold At at hr1; have h9 : j = 0 ∨ j = 1 ∨ j = 2 ∨ j = 3 ∨ j = 4 ∨ j = 5 ∨ j = 6 ∨ j = 7 ∨ j = 8 := (by omega); constructor <;> simp only [World.cell?, World.frozen?, hr1] <;> rcases h9 with rfl | rfl | rfl | rfl | rfl | rfl | rfl | rfl | rfl <;> rfl); obtain ⟨r0, f0⟩ := rr 0 (by omega); obtain ⟨r1, f1⟩ := rr 1 (by omega); obtain ⟨r2, f2⟩ := rr 2 (by omega); obtain ⟨r3, f3⟩ := rr 3 (by omega); obtain ⟨r4, f4⟩ := rr 4 (by omega); obtain ⟨r5, f5⟩ := rr 5 (by omega); obtain ⟨r6, f6⟩ := rr 6 (by omega); obtain ⟨r7, f7⟩ := rr 7 (by omega); obtain ⟨r8, f8⟩ := rr 8 (by omega); clear rr)
    | go_in)
  have hb2 : Below w.heap.size w w2 := hB.trans (hk2.mono (by rw [size2]; omega))
  refine bodyPost_ret (v := .tuple #[.agg (cntA (List.replicate 9 0)), .int .i64 pl]) (by simp [results, results27, go_sem, cntA, vi, List.replicate, World.cell?_setCell_same, r0, r1, r2, r3, r4, r5, r6, r7, r8]) rfl ⟨rfl, ?_⟩
  repeat (refine Below.setCell ?_ (by simp) _)
  exact hb2
theorem touchP_w (hc : Chk w (.agg #[pvv, ev, .bool lx, .slice ad0 n c]) pl) {d : Nat → MvD} (hm : IsMoves w (.slice ad0 n c) d n) (hv : pl = 0 → Val d n) :
    Calls prog 27 #[.agg #[pvv, ev, .bool lx, .slice ad0 n c]] w fun e w' => e = .returned (.tuple #[.agg (cntA (tchP pl d n)), .int .i64 pl]) ∧ Below w.heap.size w w' := by
  unfold tchP
  by_cases h : pl = 0
  · subst h
    obtain ⟨a1, c1, e1, hnc, hM0⟩ := hm
    simp only [Value.slice.injEq, true_and] at e1
    obtain ⟨rfl, rfl⟩ := e1
    simp only [if_true]
    exact touch_w pvv ev lx d n c ad0 w (hv rfl) hnc hM0 fun W hW => (hc W hW).mono fun e w' ⟨h1, h2⟩ => ⟨h1, kept_of h2⟩
  · simp only [if_neg h]
    exact touch_bad hc h
theorem touchR_any {d : Nat → MvD} (hm : IsMoves w (.slice ad0 n c) d n) (hv : Val d n) :
    Calls prog 32 #[.agg #[pvv, ev, .bool lx, .slice ad0 n c]] w fun e w' => e = .returned (.agg (cntA (tchL d n))) ∧ Below w.heap.size w w' := by
  obtain ⟨a1, c1, e1, hnc, hM0⟩ := hm
  simp only [Value.slice.injEq, true_and] at e1
  obtain ⟨rfl, rfl⟩ := e1
  exact touchR_w pvv ev lx d n c ad0 w hv hnc hM0
end
end Go.Proofs.Tryz
