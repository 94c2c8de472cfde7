/- PlayFielders returns true, and what was in memory is as it was: by the kit's walk. -/
import Derived.Test.YthlmjjdlmidnlaaGreatDoorArVj
import Derived.Deep.RegionHeld3
import Derived.Deep.RegionWith
import Derived.Deep.DeepCutAuto
namespace Go.Proofs.Tryz
open Go Go.Am Go.RowKit Go.Dr
set_option maxRecDepth 100000

/-- What the law's region with the reference's Touches and Putouts leaves. -/
def CutT (w : World) (d : Nat → MvD) (n : Nat) (pl : Int) (v : Value) (b : Nat) (cs : Array Value) (wx : World) : Prop := wx.ownsRow w.heap.size 3 1 v (if pl = 0 then putK d n else []).length (vsOf (if pl = 0 then putK d n else [])) ∧ At wx b cs 49 ∧ ∃ W, Below w.heap.size w W ∧ W.grownBy wx (some b)
theorem cutT_of {w W : World} {d : Nat → MvD} {n : Nat} {v : Value} {b : Nat} {z0 z1 z2 z3 z4 z5 z6 z7 z8 : Value} (ho : W.ownsRow w.heap.size 3 1 v (putK d n).length (vsOf (putK d n))) (hz : At W b #[z0, z1, z2, z3, z4, z5, z6, z7, z8] 49) (hb : Below w.heap.size w W) (hlt : b < w.heap.size) (v0 v1 v2 v3 v4 v5 v6 v7 v8 : Value) :
    CutT w d n 0 v b #[v0, v1, v2, v3, v4, v5, v6, v7, v8] (((((((((W.setCell ⟨b, 0, none⟩ v0).setCell ⟨b, 1, none⟩ v1).setCell ⟨b, 2, none⟩ v2).setCell ⟨b, 3, none⟩ v3).setCell ⟨b, 4, none⟩ v4).setCell ⟨b, 5, none⟩ v5).setCell ⟨b, 6, none⟩ v6).setCell ⟨b, 7, none⟩ v7).setCell ⟨b, 8, none⟩ v8) := by
  refine ⟨?_, set9 hz _ _ _ _ _ _ _ _ _, W, hb, grown_setCells b [v0, v1, v2, v3, v4, v5, v6, v7, v8] 0 W⟩
  rw [if_pos rfl]
  repeat (refine ownsRow_setCell_below ?_ (by exact hlt) _)
  exact ho
theorem cutT_no {w : World} {d : Nat → MvD} {n : Nat} {pl : Int} {b : Nat} {cs : Array Value} (hp : ¬ pl = 0) (hz : At w b cs 49) : CutT w d n pl (.slice none 0 0) b cs w :=
  ⟨by rw [if_neg hp]; exact World.ownsRow_nil _ _ _ _, hz, w, Below.refl _ _, World.grownBy.refl _ _⟩

/-- What the law's region with the reference's move and assists leaves. -/
def CutM (w : World) (k : Int) (m : MvD) (v16 v18 v19 : Value) (b : Nat) (wx : World) : Prop := v18 = .int .i64 k ∧ v19 = .int .i64 (asErr k m) ∧ (∃ f1 f2 xb s a k5 c5, At wx b #[.int .i64 f1, .int .i64 f2, .bool xb, .string s, .slice a k5 c5] 27 ∧ IsMvV wx (.agg #[.int .i64 f1, .int .i64 f2, .bool xb, .string s, .slice a k5 c5]) m) ∧
  (asErr k m = 0 → IsInts wx v16 (tl (asRes k m)) 0 (asRes k m).length) ∧ ∃ W, Below w.heap.size w W ∧ W.grownBy wx (some b)

theorem cutM_of {wc W : World} {m : MvD} {L : List Int} {av : Value} {b base : Nat} {f1 f2 : Int} {xb : Bool} {s : ByteArray} {a : Option Addr} {k5 c5 : Nat} {z0 z1 z2 z3 z4 : Value} (hE : asErr 0 m = 0) (hR : asRes 0 m = L) (hy : At W b #[z0, z1, z2, z3, z4] 27) (hbk : Below wc.heap.size wc W) (hav : W.ownsRow base 3 1 av L.length (vsOf L)) (hbb : b < base)
    (hmv : IsMvV (((((W.setCell ⟨b, 0, none⟩ (.int .i64 f1)).setCell ⟨b, 1, none⟩ (.int .i64 f2)).setCell ⟨b, 2, none⟩ (.bool xb)).setCell ⟨b, 3, none⟩ (.string s)).setCell ⟨b, 4, none⟩ (.slice a k5 c5)) (.agg #[.int .i64 f1, .int .i64 f2, .bool xb, .string s, .slice a k5 c5]) m) :
    CutM wc 0 m av (.int .i64 0) (.int .i64 0) b (((((W.setCell ⟨b, 0, none⟩ (.int .i64 f1)).setCell ⟨b, 1, none⟩ (.int .i64 f2)).setCell ⟨b, 2, none⟩ (.bool xb)).setCell ⟨b, 3, none⟩ (.string s)).setCell ⟨b, 4, none⟩ (.slice a k5 c5)) :=
  ⟨rfl, by rw [hE], ⟨f1, f2, xb, s, a, k5, c5, set5 hy _ _ _ _ _, hmv⟩, fun _ => by rw [hR]; exact ints_of_l (own_set5 hav hbb _ _ _ _ _), W, hbk, grown_setCells b [_, _, _, _, _] 0 W⟩

section
variable {w : World} {y0 y1 : Int → Int} {yo yn eo en x : Int} {lx : Bool} {d : Nat → MvD} {n : Nat} {s1 s2 : ByteArray} {ad0 : Option Addr} {c : Nat}
theorem ass_w {w : World} {pl x : Int} {lx : Bool} {pvv ev : Value} {ad0 : Option Addr} {n c : Nat} {k : Int} {m : MvD} (hc : Chk w (.agg #[pvv, ev, .bool lx, .slice ad0 n c]) pl) {d : Nat → MvD} (hm : IsMoves w (.slice ad0 n c) d n) (hn : n ≤ 1000000) (hb : ∀ i, i < n → (d i).bn ≤ 1000000) (ha : Asked pl x d n k m) (hv : pl = 0 → Val d n) :
    Calls prog 29 #[.agg #[pvv, ev, .bool lx, .slice ad0 n c], .int .i64 x] w fun e w' => AssW k m w.heap.size e w' ∧ Below w.heap.size w w' := by
  by_cases h : asErr k m = 0
  case neg => exact ass_bad hc hm hn hb ha h
  have h' := h
  unfold asErr at h'
  by_cases hk : k = 0
  case neg => rw [if_neg hk] at h'; exact absurd h' hk
  subst hk
  rw [if_pos rfl] at h'
  by_cases hx : m.x = 0
  · rw [if_pos hx] at h'; cases h'
  have ha' := ha
  rcases ha with ⟨a0, a1, -⟩ | ⟨-, a1, -, -⟩ | ⟨a0, -, i, hi, rfl, -, -⟩
  · exact absurd a1.symm a0
  · cases a1
  have hp : pl = 0 := by
    unfold oneV at a0
    by_cases hp : pl = 0
    · exact hp
    · rw [if_neg hp] at a0; exact absurd a0 hp
  have hV := hv hp
  exact ass_go hc hm hn hb ha' hx (hV.out i hi hx) (hV.bn i hi).2 (hV.t i hi)
theorem fielders_no (hL : Laid w) (hp : IsStr (.string s1) y0 yo yn) (he : IsStr (.string s2) y1 eo en) (hm : IsMoves w (.slice ad0 n c) d n) (h : ¬ ShortP yn en d n) :
    Calls prog 5 #[.agg #[.string s1, .string s2, .bool lx, .slice ad0 n c], .int .i64 x] w fun e w' => e = .returned (.bool true) ∧ Below w.heap.size w w' := by
  have hB : Below w.heap.size w (w.alloc (.cells #[.string s1, .string s2, .bool lx, .slice ad0 n c] 24)) := (Below.refl _ _).alloc (Nat.le_refl _) _
  have cA := awake_w (hL.below hB)
  go_enter func5, ntmps5
  go_wp2_with fail
  go_at_call 13
  refine cA.mono ?_
  rintro e w1 ⟨rfl, hk1⟩
  have hb1 : Below w.heap.size w w1 := hB.trans (hk1.mono (by simp))
  have hx1 := (at_new _ _ _).below hk1 (at_new _ _ _).lt
  obtain ⟨⟨x0, x1, x2, x3⟩, z0, z1, z2, z3⟩ := box4 hx1
  clear cA
  have cS := short_no (lx := lx) hp he (hm.below hb1) h
  go_wp2_with fail
  go_at_call 14
  refine cS.mono ?_
  rintro e w2 ⟨rfl, hk2⟩
  have hb2 : Below w.heap.size w w2 := hb1.trans (hk2.mono hb1.size)
  have cA := awake_w (hL.below hb2)
  go_wp2_with fail
  go_at_call 13
  refine cA.mono ?_
  rintro e w3 ⟨rfl, hk3⟩
  go_wp2
  go_ret
  exact ⟨rfl, hb2.trans (hk3.mono hb2.size)⟩

theorem u49 : prog.underlying 49 = some (.array 9 3) := by kernel_rfl
theorem eq9 (t0 t1 t2 t3 t4 t5 t6 t7 t8 : Int) (W : World) : (Op.equalIn 10000 49 (.agg #[.int .i64 t0, .int .i64 t1, .int .i64 t2, .int .i64 t3, .int .i64 t4, .int .i64 t5, .int .i64 t6, .int .i64 t7, .int .i64 t8]) (.agg #[.int .i64 t0, .int .i64 t1, .int .i64 t2, .int .i64 t3, .int .i64 t4, .int .i64 t5, .int .i64 t6, .int .i64 t7, .int .i64 t8])).run prog W = .ok true W := by
  obtain ⟨i0, hi, hz0, hz1, hz2⟩ := info_parts info3
  rw [run_equalIn_arr 9999 49 3 9 i0 _ _ u49 hi W, hz1]
  have hp : ∀ (x : Int) (xs : Array Value) (o : Nat) (w : World), xs[o]? = some (.int .i64 x) → (part 3 xs o).run prog w = .ok (.int .i64 x) w := by
    intro x xs o w h
    simp [part, isAgg3, h]
  simp [eqElems, hp, run_equalIn_int _ _ _ _ _ _ _ underlying3]
theorem length_asRes (k : Int) (m : MvD) : (asRes k m).length ≤ 1000000 := by
  unfold asRes
  split
  · exact Nat.le_trans (length_asK _ _ _ 9) (by decide)
  · simp
theorem list_bad2 (k : Int) (hk : ¬ k = 0) (ad : Option Addr) (c : Nat) (v : Value) (w : World) : Calls prog 37 #[.slice ad 0 c, .int .i64 k, .int .i64 k, v] w fun e w' => e = .returned (.bool true) ∧ Below w.heap.size w w' := by
  go_enter func37, ntmps37
  go_wp2
  go_ret
  exact ⟨rfl, Below.refl _ _⟩
theorem listL_w {w : World} {k : Int} {a b : Value} {L : List Int} (hk : k ≠ 0 → L = []) (hl : L.length ≤ 1000000) (h1 : IsInts w a (tl L) 0 L.length) (h2 : k = 0 → IsInts w b (tl L) 0 L.length) : Calls prog 37 #[a, .int .i64 k, .int .i64 k, b] w fun e w' => e = .returned (.bool true) ∧ Below w.heap.size w w' := by
  by_cases h : k = 0
  · subst h; exact list_ok h1 (h2 rfl) (by omega)
  · have hL := hk h
    obtain ⟨ad, m, c, rfl, -, hm, -⟩ := h1
    have : m = 0 := by rw [hL] at hm; simpa using hm
    subst this
    exact list_bad2 k h ad c b w

set_option maxHeartbeats 3200000 in
theorem fielders_go {pl : Int} (hL : Laid w) (hp : IsStr (.string s1) y0 yo yn) (he : IsStr (.string s2) y1 eo en) (hm : IsMoves w (.slice ad0 n c) d n) (h : ShortP yn en d n)
    (hC : ∀ W mv, Below w.heap.size w W → IsMoves W mv d n → Chk W (.agg #[.string s1, .string s2, .bool lx, mv]) pl) (hR : ∀ W, Below w.heap.size w W → Calls prog 17 #[.agg #[.string s1, .string s2, .bool lx, .slice ad0 n c]] W fun e w' => e = .returned (.int .i64 pl) ∧ Below W.heap.size W w') (hV : pl = 0 → Val d n) :
    Calls prog 5 #[.agg #[.string s1, .string s2, .bool lx, .slice ad0 n c], .int .i64 x] w fun e w' => e = .returned (.bool true) ∧ Below w.heap.size w w' := by
  obtain ⟨k, m, hk⟩ := asked_some pl x d n
  have hn6 : n ≤ 6 := h.2.2.1
  have hbn : ∀ i, i < n → (d i).bn ≤ 40 := fun i hi => (h.2.2.2 i hi).2
  have hbn2 : ∀ i, i < n → (d i).bn ≤ 1000000 := fun i hi => by have := hbn i hi; omega
  have hmbn : m.bn ≤ 1000000 := by
    rcases hk with ⟨-, -, rfl⟩ | ⟨-, -, rfl, -⟩ | ⟨-, -, i, hi, rfl, -⟩
    · exact (by decide : (0 : Int) ≤ 1000000)
    · exact (by decide : (0 : Int) ≤ 1000000)
    · exact hbn2 i hi
  have hB : Below w.heap.size w (w.alloc (.cells #[.string s1, .string s2, .bool lx, .slice ad0 n c] 24)) := (Below.refl _ _).alloc (Nat.le_refl _) _
  have cA := awake_w (hL.below hB)
  go_enter func5, ntmps5
  go_wp2_with fail
  go_at_call 13
  refine cA.mono ?_
  rintro e w1 ⟨rfl, hk1⟩
  have hb1 : Below w.heap.size w w1 := hB.trans (hk1.mono (by simp))
  have hx1 := (at_new _ _ _).below hk1 (at_new _ _ _).lt
  obtain ⟨⟨x0, x1, x2, x3⟩, z0, z1, z2, z3⟩ := box4 hx1
  clear cA
  have cS := short_yes (lx := lx) hp he (hm.below hb1) h
  go_wp2_with fail
  go_at_call 14
  refine cS.mono ?_
  rintro e w2 ⟨rfl, hk2⟩
  clear x0 x1 x2 x3 z0 z1 z2 z3 cS
  have hb2 : Below w.heap.size w w2 := hb1.trans (hk2.mono hb1.size)
  have hx2 := hx1.below hk2 hx1.lt
  obtain ⟨⟨x0, x1, x2, x3⟩, z0, z1, z2, z3⟩ := box4 hx2
  have cP := copied_w (s1 := s1) (s2 := s2) (lx := lx) (hm.below hb2) hn6 hbn
  go_wp2_with fail
  go_at_call 16
  refine cP.mono ?_
  rintro e w3 ⟨v3, rfl, hm3, hk3⟩
  clear x0 x1 x2 x3 z0 z1 z2 z3 cP
  have hb3 : Below w.heap.size w w3 := hb2.trans (hk3.mono hb2.size)
  have hx3 := hx2.below hk3 hx2.lt
  obtain ⟨a3, c3, rfl, hn3, hr3⟩ := hm3
  have cM := moveOf26_w (x := x) (hC _ _ hb3 ⟨a3, c3, rfl, hn3, hr3⟩) ⟨a3, c3, rfl, hn3, hr3⟩ (by omega) hbn2
  clear hr3
  go_wp2_with fail
  go_at_call 26
  refine cM.mono ?_
  rintro e w4 ⟨⟨v, k', m', rfl, hv4, ha'⟩, hk4⟩
  obtain ⟨rfl, rfl⟩ := asked_one hk ha'
  obtain ⟨f1, f2, xb, s, a5, k5, c5, rfl, hf1, hf2, hxb, -, -, -⟩ := hv4.parts
  clear cM ha' hf1 hf2 hxb
  have hb4 : Below w.heap.size w w4 := hb3.trans (hk4.mono hb3.size)
  have hx4 := hx3.below hk4 hx3.lt
  have l4 := hx4.lt
  obtain ⟨⟨x0, x1, x2, x3⟩, z0, z1, z2, z3⟩ := box4 hx4
  have hb4' : Below w.heap.size w (w4.alloc (.cells #[.int .i64 f1, .int .i64 f2, .bool xb, .string s, .slice a5 k5 c5] 27)) := hb4.alloc hb4.size _
  have hv5 := hv4.is.below ((Below.refl _ _).alloc (Nat.le_refl _) (.cells #[.int .i64 f1, .int .i64 f2, .bool xb, .string s, .slice a5 k5 c5] 27))
  have hm5 := at_new w4 #[.int .i64 f1, .int .i64 f2, .bool xb, .string s, .slice a5 k5 c5] 27
  have cP := copied_w (s1 := s1) (s2 := s2) (lx := lx) (hm.below hb4') hn6 hbn
  clear hv4 hk1 hk2 hk3 hk4 hb2 hb3 hx1 hx2 hx3
  go_wp2_with fail
  go_at_call 16
  refine cP.mono ?_
  rintro e w5 ⟨v5, rfl, hm5c, hk5⟩
  clear x0 x1 x2 x3 z0 z1 z2 z3 cP
  have hb5 : Below w.heap.size w w5 := hb4'.trans (hk5.mono hb4'.size)
  have hx5 := (hx4.alloc _).below hk5 (hx4.alloc _).lt
  have hv5' := hv5.below hk5
  have hm5' := hm5.below hk5 hm5.lt
  obtain ⟨a6, c6, rfl, hn6', hr6⟩ := hm5c
  have cT := touchP_w (hC _ _ hb5 ⟨a6, c6, rfl, hn6', hr6⟩) ⟨a6, c6, rfl, hn6', hr6⟩ hV
  clear hr6 hv5 hm5 hx4 l4 hb4 hb4' hk5
  obtain ⟨t0, t1, t2, t3, t4, t5, t6, t7, t8, ht⟩ := nine (length_tchP pl d n)
  rw [ht] at cT
  simp only [cntA, List.map_cons, List.map_nil, vi] at cT
  go_wp2_with fail
  go_at_call 27
  refine cT.mono ?_
  rintro e w6 ⟨rfl, hk6⟩
  clear cT
  have hb6 : Below w.heap.size w w6 := hb5.trans (hk6.mono hb5.size)
  have hx6 := hx5.below hk6 hx5.lt
  have hv6 := hv5'.below hk6
  have hm6 := hm5'.below hk6 hm5'.lt
  have l6 := hx6.lt
  obtain ⟨⟨x0, x1, x2, x3⟩, z0, z1, z2, z3⟩ := box4 hx6
  clear hx5 hv5' hm5' hb5 hk6
  have hb6' : Below w.heap.size w (w6.alloc (.cells #[.int .i64 t0, .int .i64 t1, .int .i64 t2, .int .i64 t3, .int .i64 t4, .int .i64 t5, .int .i64 t6, .int .i64 t7, .int .i64 t8] 49)) := hb6.alloc hb6.size _
  have ht6 := at_new w6 #[.int .i64 t0, .int .i64 t1, .int .i64 t2, .int .i64 t3, .int .i64 t4, .int .i64 t5, .int .i64 t6, .int .i64 t7, .int .i64 t8] 49
  have hv6' := hv6.below ((Below.refl _ _).alloc (Nat.le_refl _) (.cells #[.int .i64 t0, .int .i64 t1, .int .i64 t2, .int .i64 t3, .int .i64 t4, .int .i64 t5, .int .i64 t6, .int .i64 t7, .int .i64 t8] 49))
  have cP := copied_w (s1 := s1) (s2 := s2) (lx := lx) (hm.below hb6') hn6 hbn
  go_wp2_with fail
  go_at_call 16
  refine cP.mono ?_
  rintro e w7 ⟨v7, rfl, hm7c, hk7⟩
  clear x0 x1 x2 x3 z0 z1 z2 z3 cP
  have hb7 : Below w.heap.size w w7 := hb6'.trans (hk7.mono hb6'.size)
  have hx7 := (hx6.alloc _).below hk7 (hx6.alloc _).lt
  have hv7 := hv6'.below hk7
  have hm7 := (hm6.alloc _).below hk7 (hm6.alloc _).lt
  have ht7 := ht6.below hk7 ht6.lt
  obtain ⟨a8, c8, rfl, hn8, hr8⟩ := hm7c
  have cT := puts_w (hC _ _ hb7 ⟨a8, c8, rfl, hn8, hr8⟩) ⟨a8, c8, rfl, hn8, hr8⟩ hV
  clear hr8 hv6 hv6' hm6 hx6 ht6 l6 hb6 hb6' hk7
  go_wp2_with fail
  go_at_call 28
  refine cT.mono ?_
  rintro e w8 ⟨⟨po, rfl, hpo⟩, hk8⟩
  clear cT
  have hb8 : Below w.heap.size w w8 := hb7.trans (hk8.mono hb7.size)
  have hx8 := hx7.below hk8 hx7.lt
  have hv8 := hv7.below hk8
  have hm8 := hm7.below hk8 hm7.lt
  have ht8 := ht7.below hk8 ht7.lt
  obtain ⟨⟨x0, x1, x2, x3⟩, z0, z1, z2, z3⟩ := box4 hx8
  have cP := copied_w (s1 := s1) (s2 := s2) (lx := lx) (hm.below hb8) hn6 hbn
  have hpo8 := hpo
  clear hx7 hv7 hm7 ht7 hb7 hk8 hpo
  go_wp2_with fail
  go_at_call 16
  refine cP.mono ?_
  rintro e w9 ⟨v9, rfl, hm9c, hk9⟩
  clear x0 x1 x2 x3 z0 z1 z2 z3 cP
  have hb9 : Below w.heap.size w w9 := hb8.trans (hk9.mono hb8.size)
  have hx9 := hx8.below hk9 hx8.lt
  have hv9 := hv8.below hk9
  have hm9 := hm8.below hk9 hm8.lt
  have ht9 := ht8.below hk9 ht8.lt
  have hpo9 := owns_below hpo8 hk9
  obtain ⟨a10, c10, rfl, hn10, hr10⟩ := hm9c
  have cT := ass_w (hC _ _ hb9 ⟨a10, c10, rfl, hn10, hr10⟩) ⟨a10, c10, rfl, hn10, hr10⟩ (by omega) hbn2 hk hV
  clear hr10 hx8 hv8 hm8 ht8 hpo8 hb8 hk9
  go_wp2_with fail
  go_at_call 29
  refine cT.mono ?_
  rintro e w10 ⟨⟨ao, rfl, hao⟩, hk10⟩
  clear cT
  have hb10 : Below w.heap.size w w10 := hb9.trans (hk10.mono hb9.size)
  have hx10 := hx9.below hk10 hx9.lt
  have hv10 := hv9.below hk10
  have hm10 := hm9.below hk10 hm9.lt
  have ht10 := ht9.below hk10 ht9.lt
  have hpo10 := owns_below hpo9 hk10
  obtain ⟨⟨x0, x1, x2, x3⟩, z0, z1, z2, z3⟩ := box4 hx10
  have cR := hR _ hb10
  clear hx9 hv9 hm9 ht9 hpo9 hb9 hk10
  go_wp2_with fail
  go_at_call 17
  refine cR.mono ?_
  rintro e w11 ⟨rfl, hk11⟩
  clear x0 x1 x2 x3 z0 z1 z2 z3 cR
  have hb11 : Below w.heap.size w w11 := hb10.trans (hk11.mono hb10.size)
  have hx11 := hx10.below hk11 hx10.lt
  have hv11 := hv10.below hk11
  have hm11 := hm10.below hk11 hm10.lt
  have ht11 := ht10.below hk11 ht10.lt
  have hpo11 := owns_below hpo10 hk11
  have hao11 := owns_below hao hk11
  clear hx10 hv10 hm10 ht10 hpo10 hb10 hk11 hao
  obtain ⟨r, hr⟩ : ∃ r : Int, (if 0 ≤ x ∧ x ≤ 3 then (0 : Int) else 3) = r := ⟨_, rfl⟩
  have cW : ∀ W : World, Calls prog 31 #[.int .i64 x, .int .i64 0, .int .i64 3] W fun e w' => e = .returned (.int .i64 r) ∧ w' = W := fun W => by rw [← hr]; exact range_w x 0 3 W
  obtain ⟨v1, hv1⟩ : ∃ v : Int, (if pl = 0 then r else pl) = v := ⟨_, rfl⟩
  have cF : ∀ (b : Nat) (W : World), W.cell? ⟨b, 0, none⟩ = some (.int .i64 pl) → W.cell? ⟨b, 1, none⟩ = some (.int .i64 r) → Calls prog 30 #[.slice (some ⟨b, 0, none⟩) 2 2] W fun e w' => e = .returned (.int .i64 v1) ∧ Below W.heap.size W w' := fun b W h0 h1 => by rw [← hv1]; exact firstR_w b pl r W h0 h1
  have e1 : oneV pl x = v1 := by rw [← hv1, ← hr]; rfl
  clear hv1 hr
  let Z9 : Obj := .cells #[.int .i64 0, .int .i64 0, .int .i64 0, .int .i64 0, .int .i64 0, .int .i64 0, .int .i64 0, .int .i64 0, .int .i64 0] 49
  let Z5 : Obj := .cells #[.int .i64 0, .int .i64 0, .bool false, .string ⟨#[]⟩, .slice none 0 0] 27
  let Zr : Obj := .cells #[.int .i64 pl, .int .i64 r] 3
  have hbZ : Below w11.heap.size w11 (((w11.alloc Z9).alloc Z5).alloc Zr) := (((Below.refl _ _).alloc (Nat.le_refl _) _).alloc (by simp) _).alloc (by simp; omega) _
  have hr12 : At (((w11.alloc Z9).alloc Z5).alloc Zr) (w11.heap.size + 1 + 1) #[.int .i64 pl, .int .i64 r] 3 := al3_2 _ _ _ _
  have hz12 : At (((w11.alloc Z9).alloc Z5).alloc Zr) w11.heap.size #[.int .i64 0, .int .i64 0, .int .i64 0, .int .i64 0, .int .i64 0, .int .i64 0, .int .i64 0, .int .i64 0, .int .i64 0] 49 := al3_0 _ _ _ _
  have hy12 : At (((w11.alloc Z9).alloc Z5).alloc Zr) (w11.heap.size + 1) #[.int .i64 0, .int .i64 0, .bool false, .string ⟨#[]⟩, .slice none 0 0] 27 := al3_1 _ _ _ _
  have cF := cF (w11.heap.size + 1 + 1) (((w11.alloc Z9).alloc Z5).alloc Zr) (box2 hr12).1 (box2 hr12).2
  have hb12 := hb11.trans (hbZ.mono hb11.size)
  have hx12 := hx11.below hbZ hx11.lt
  have hs12 : (((w11.alloc Z9).alloc Z5).alloc Zr).heap.size = w11.heap.size + 3 := by simp
  have l11 := hx11.lt
  clear hr12
  go_wp2_with (first
    | (go_at_call 31; refine (cW _).mono ?_; rintro e w12 ⟨rfl, rfl⟩)
    | fail)
  go_at_call 30
  refine cF.mono ?_
  rintro e w13 ⟨rfl, hk13⟩
  clear cF cW
  have hb13 := hb12.trans (hk13.mono hb12.size)
  have hB13 : Below w11.heap.size w11 w13 := hbZ.trans (hk13.mono hbZ.size)
  have hx13 := hx12.below hk13 hx12.lt
  have hz13 := hz12.below hk13 hz12.lt
  have hy13 := hy12.below hk13 hy12.lt
  clear hb12 hx12 hz12 hy12 hk13 hs12 hbZ
  clear_value Z9 Z5 Zr
  obtain ⟨⟨x0, x1, x2, x3⟩, z0, z1, z2, z3⟩ := box4 hx13
  go_upto_if 64 with fail
  go_cut [15] (fun s15 wx => CutT w13 d n pl s15 w11.heap.size #[.int .i64 t0, .int .i64 t1, .int .i64 t2, .int .i64 t3, .int .i64 t4, .int .i64 t5, .int .i64 t6, .int .i64 t7, .int .i64 t8] wx)
  case first =>
    by_cases hpl : pl = 0
    · subst hpl
      have hV0 : Val d n := hV rfl
      have ht0 : tchL d n = [t0, t1, t2, t3, t4, t5, t6, t7, t8] := by rw [← ht, tchP, if_pos rfl]
      have cT : ∀ W, Below w.heap.size w W → Calls prog 32 #[.agg #[.string s1, .string s2, .bool lx, .slice ad0 n c]] W fun e w' => e = .returned (.agg #[.int .i64 t0, .int .i64 t1, .int .i64 t2, .int .i64 t3, .int .i64 t4, .int .i64 t5, .int .i64 t6, .int .i64 t7, .int .i64 t8]) ∧ Below W.heap.size W w' := fun W hW => by
        have := touchR_any (pvv := .string s1) (ev := .string s2) (lx := lx) (hm.below hW) hV0
        rw [ht0] at this; exact this
      clear hV
      have hdr : Below w13.heap.size w13 w13.drew := (Below.refl _ _).drew
      go_wp2_with fail
      go_region_with (first
        | (go_at_call 32; refine Calls.mono (cT _ ?_) ?_; (exact hb13.trans (Below.mono (by first | exact hbk | exact hdr) hb13.size)); rintro e W ⟨rfl, hkk⟩; (try have hown := owns_below hown hkk); have hbk := Below.trans (B := w13.heap.size) (a := w13) (by first | exact hbk | exact hdr) (Below.mono hkk (Below.size (w := w13) (B := w13.heap.size) (by first | exact hbk | exact hdr))); obtain ⟨⟨x0, x1, x2, x3⟩, -⟩ := box4 (hx13.below hbk hx13.lt); have hz9 := hz13.below hbk hz13.lt; obtain ⟨⟨q0, q1, q2, q3, q4, q5, q6, q7, q8⟩, g0, g1, g2, g3, g4, g5, g6, g7, g8⟩ := box9 hz9)
        | (go_at_call 33; refine Calls.mono (putsR_w (hm.below ?_) hV0) ?_; (exact hb13.trans (Below.mono (by first | exact hbk | exact hdr) hb13.size)); rintro e W ⟨⟨pv, rfl, hpv⟩, hkk⟩; have hown := owns_base hpv (Below.size (w := w13) (B := w13.heap.size) (by first | exact hbk | exact hdr)); have hbk := Below.trans (B := w13.heap.size) (a := w13) (by first | exact hbk | exact hdr) (Below.mono hkk (Below.size (w := w13) (B := w13.heap.size) (by first | exact hbk | exact hdr))); obtain ⟨⟨x0, x1, x2, x3⟩, -⟩ := box4 (hx13.below hbk hx13.lt); have hz9 := hz13.below hbk hz13.lt; obtain ⟨⟨q0, q1, q2, q3, q4, q5, q6, q7, q8⟩, g0, g1, g2, g3, g4, g5, g6, g7, g8⟩ := box9 hz9))
      all_goals (go_wp2_with fail; go_meet; exact cutT_of hown hz9 hbk hz13.lt _ _ _ _ _ _ _ _ _)
    · have hz0 : [t0, t1, t2, t3, t4, t5, t6, t7, t8] = List.replicate 9 0 := by rw [← ht, tchP, if_neg hpl]
      simp only [List.replicate, List.cons.injEq, and_true] at hz0
      obtain ⟨rfl, rfl, rfl, rfl, rfl, rfl, rfl, rfl, rfl⟩ := hz0
      go_wp2_with fail
      go_meet
      exact cutT_no hpl hz13
  case rest =>
    clear x0 x1 x2 x3 z0 z1 z2 z3
    obtain ⟨w14, e14⟩ : ∃ W, W = wc := ⟨_, rfl⟩
    subst e14
    obtain ⟨hpv, hz14, W14, hbW, hgW⟩ := hcut
    have hB14 : Below w11.heap.size w11 w14 := (hB13.trans (hbW.mono hB13.size)).grown hgW (Nat.le_trans hB13.size hbW.size) (fun q e => by cases e; exact Nat.le_refl _)
    have hx14 := hx11.below hB14 hx11.lt
    have hy14 : At w14 (w11.heap.size + 1) #[.int .i64 0, .int .i64 0, .bool false, .string ⟨#[]⟩, .slice none 0 0] 27 := (hgW.block _ (Nat.lt_of_lt_of_le hy13.lt hbW.size) (fun e => by have := Option.some.inj e; omega)).trans (hy13.below hbW hy13.lt)
    have hb14 : Below w.heap.size w w14 := hb11.trans (hB14.mono hb11.size)
    have l13 := hB13.size
    have l13b := hz13.lt
    have l13y := hy13.lt
    obtain ⟨⟨x0, x1, x2, x3⟩, z0, z1, z2, z3⟩ := box4 hx14
    obtain ⟨⟨y0', y1', y2', y3', y4'⟩, g0, g1, g2, g3, g4⟩ := box5 hy14
    clear hgW hbW hx13 hz13 hy13 hb13 hB13
    go_upto_if 70 with fail
    go_cut [16, 18, 19] (fun s16 s18 s19 wx => CutM w14 k' m' s16 s18 s19 (w11.heap.size + 1) wx)
    case first =>
      by_cases hone : v1 = 0
      · subst hone
        rcases hk with ⟨a0, -, -⟩ | ⟨-, rfl, rfl, hno⟩ | ⟨-, rfl, i, hi, rfl, hxi, hno⟩
        · exact absurd e1 a0
        · have cI : Calls prog 34 #[.agg #[.string s1, .string s2, .bool lx, .slice ad0 n c], .int .i64 x] w14 fun e w' => e = .returned (.int .i64 (-1)) ∧ Below w14.heap.size w14 w' := by
            refine (moveOfR_w (hm.below hb14) (by omega)).mono ?_
            rintro e w' ⟨⟨kk, rfl, hq⟩, hB⟩
            rcases hq with ⟨rfl, -⟩ | ⟨i, -, hi, hxi, -⟩
            · exact ⟨rfl, hB⟩
            · exact absurd hxi (hno i hi)
          go_wp2_with fail
          go_at_call 34
          refine cI.mono ?_
          rintro e w15 ⟨rfl, hk15⟩
          go_wp2_with fail
          go_meet
          exact ⟨rfl, rfl, ⟨_, _, _, _, _, _, _, hy14.below hk15 hy14.lt, noM_is _⟩, (fun h => absurd h (by unfold asErr; decide)), w15, hk15, World.grownBy.refl _ _⟩
        · have cI : Calls prog 34 #[.agg #[.string s1, .string s2, .bool lx, .slice ad0 n c], .int .i64 x] w14 fun e w' => e = .returned (.int .i64 (i : Int)) ∧ Below w14.heap.size w14 w' := by
            refine (moveOfR_w (hm.below hb14) (by omega)).mono ?_
            rintro e w' ⟨⟨kk, rfl, hq⟩, hB⟩
            rcases hq with ⟨rfl, hn⟩ | ⟨j, rfl, hj, hxj, hnj⟩
            · exact absurd hxi (hn i hi)
            · have : j = i := by
                rcases Nat.lt_trichotomy i j with h | h | h
                · exact absurd hxi (hnj i h)
                · exact h.symm
                · exact absurd hxj (hno j h)
              subst this; exact ⟨rfl, hB⟩
          go_wp2_with fail
          go_at_call 34
          refine cI.mono ?_
          rintro e w15 ⟨rfl, hk15⟩
          clear x0 x1 x2 x3 z0 z1 z2 z3 y0' y1' y2' y3' y4' g0 g1 g2 g3 g4
          have hx15 := hx14.below hk15 hx14.lt
          have hy15 := hy14.below hk15 hy14.lt
          have hb15 := hb14.trans (hk15.mono hb14.size)
          obtain ⟨⟨x0, x1, x2, x3⟩, z0, z1, z2, z3⟩ := box4 hx15
          obtain ⟨⟨y0', y1', y2', y3', y4'⟩, g0, g1, g2, g3, g4⟩ := box5 hy15
          obtain ⟨aM, cM, eM, hnc, hM0⟩ := hm
          simp only [Value.slice.injEq, true_and] at eM
          obtain ⟨rfl, rfl⟩ := eM
          obtain ⟨b, off, rfl, hM⟩ := hM0 (by omega)
          obtain ⟨sm, adm, mm, cm, hmv0⟩ := mv_at (hM i hi)
          have hmv := hmv0.below hb15
          obtain ⟨p0, p1, p2, p3, p4, hstr, -, hbnm, -⟩ := hmv
          have hbl := cell_under p0
          obtain ⟨xc, hxc⟩ : ∃ xc : Bool, decide ((d i).x ≠ 0) = xc := ⟨_, rfl⟩
          obtain ⟨g1', hg1⟩ : ∃ f1, (d i).fr = f1 := ⟨_, rfl⟩
          obtain ⟨g2', hg2⟩ : ∃ f2, (d i).to = f2 := ⟨_, rfl⟩
          rw [hxc] at p2
          rw [hg1] at p0
          rw [hg2] at p1
          have hbw0 : b < w.heap.size := by
            exact cell_under hmv0.c0
          have hbne : b ≠ w11.heap.size + 1 := by have := hb11.size; omega
          by_cases hxx : (d i).x = 0
          · have : xc = false := by rw [← hxc]; simp [hxx]
            subst this
            have HE : Hid (asErr 0 (d i) = 15) := Lib.hid (by unfold asErr; rw [if_pos rfl, if_pos hxx])
            clear hM hM0
            go_wp2_with fail
            go_meet
            refine ⟨rfl, by rw [HE.out], ⟨_, _, _, _, _, _, _, set5 hy15 _ _ _ _ _, ?_⟩, fun h => absurd h (by rw [HE.out]; decide), w15, hk15, grown_setCells (w11.heap.size + 1) [_, _, _, _, _] 0 w15⟩
            exact ⟨.string sm, _, by rw [hg1, hg2, hxc]; rfl, hstr, hmv0.ints.below (below_set5 hb15 (by have := hb11.size; omega) _ _ _ _ _)⟩
          · have : xc = true := by rw [← hxc]; simp [hxx]
            subst this
            have eE : asErr 0 (d i) = 0 := by unfold asErr; rw [if_pos rfl, if_neg hxx]
            have eR : asRes 0 (d i) = asL (d i).t (d i).bo (d i).bn.toNat := by unfold asRes; rw [if_pos eE]
            have HE : Hid (asErr 0 (d i) = 0 ∧ asRes 0 (d i) = asL (d i).t (d i).bo (d i).bn.toNat) := Lib.hid ⟨eE, eR⟩
            clear eE eR
            have hpl : pl = 0 := by
              unfold oneV at e1
              by_cases hp : pl = 0
              · exact hp
              · rw [if_neg hp] at e1; exact absurd e1 hp
            have hV0 := hV hpl
            have h1 := hV0.out i hi hxx
            have h9 := hV0.bn i hi
            obtain ⟨b2, o2, rfl, hrow⟩ := (hmv0.below hb15).row (by omega)
            have hmv2 := hmv0.below hb15
            have em : (d i).bn.toNat = mm := by omega
            have cL : ∀ W, Below w15.heap.size w15 W → Calls prog 35 #[.agg #[.int .i64 g1', .int .i64 g2', .bool true, .string sm, .slice (some ⟨b2, o2, none⟩) mm cm]] W fun e w' => ∃ v, e = .returned v ∧ w'.ownsRow W.heap.size 3 1 v (asL (d i).t (d i).bo mm).length (vsOf (asL (d i).t (d i).bo mm)) ∧ Below W.heap.size W w' := fun W hW => by
              obtain ⟨ll, el, -, -⟩ := hstr
              have el' : sm = ⟨ll.toArray⟩ := by injection el
              rw [el']
              exact assistR_w g1' g2' true ll b2 o2 mm cm (d i).t (d i).bo W (by omega) (by omega) (fun j hj => (hW.cell (cell_under (hrow j hj))).trans (hrow j hj))
            have HM : Hid ((d i).bn.toNat = mm) := Lib.hid em
            clear hM hM0 hrow em hpl hV0 h1 h9 hbnm
            have hdr : Below w15.heap.size w15 w15.drew := (Below.refl _ _).drew
            have l15 := hy15.lt
            go_wp2_with fail
            go_region_with (go_at_call 35; refine Calls.mono (cL _ (by exact hdr)) ?_; rintro e W ⟨av, rfl, hav, hkk⟩; have hbk := hdr.trans (hkk.mono (by simp)); have hy16 := hy15.below hbk hy15.lt; obtain ⟨⟨x0, x1, x2, x3⟩, -⟩ := box4 (hx15.below hbk hx15.lt); obtain ⟨⟨y0', y1', y2', y3', y4'⟩, g0, g1, g2, g3, g4⟩ := box5 hy16; obtain ⟨p0, p1, p2, p3, p4, -, -, -, -⟩ := hmv2.below hbk; rw [hxc] at p2; rw [hg1] at p0; rw [hg2] at p1)
            all_goals (go_wp2_with fail; go_meet; exact cutM_of HE.out.1 (HE.out.2.trans (by rw [HM.out])) hy16 (hk15.trans (hbk.mono hk15.size)) hav (by simp; omega) ⟨.string sm, _, by rw [hg1, hg2, hxc]; rfl, hstr, hmv0.ints.below (below_set5 (hb15.trans (hbk.mono hb15.size)) (by have := hb11.size; omega) _ _ _ _ _)⟩)
      · go_wp2_with fail
        rcases hk with ⟨a0, rfl, rfl⟩ | ⟨a0, -, -, -⟩ | ⟨a0, -, -⟩
        · go_meet
          exact ⟨by rw [e1], by unfold asErr; rw [if_neg (by rw [e1]; exact hone), e1], ⟨_, _, _, _, _, _, _, hy14, noM_is _⟩, fun h => absurd (show oneV pl x = 0 by unfold asErr at h; rw [if_neg (by rw [e1]; exact hone)] at h; exact h) a0, w14, Below.refl _ _, World.grownBy.refl _ _⟩
        · exact absurd (e1.symm.trans a0) hone
        · exact absurd (e1.symm.trans a0) hone
    case rest =>
      obtain ⟨rfl, rfl, ⟨q1, q2, qb, qs, qa, qk, qc, hy16, hmv16⟩, hint16, W16, hbW, hgW⟩ := hcut
      have hB16 : Below w11.heap.size w11 wc := (hB14.trans (hbW.mono hB14.size)).grown hgW (Nat.le_trans hB14.size hbW.size) (fun q e => by cases e; omega)
      have hm16 := hm11.below hB16 hm11.lt
      have ht16 := ht11.below hB16 ht11.lt
      have hv16 := hv11.below hB16
      have hb16 := hb11.trans (hB16.mono hb11.size)
      have hz16 : At wc w11.heap.size _ 49 := (hgW.block _ (Nat.lt_of_lt_of_le hz14.lt hbW.size) (fun e => by have := Option.some.inj e; omega)).trans (hz14.below hbW hz14.lt)
      have hpo16 := owns_below hpo11 hB16
      have hao16 := owns_below hao11 hB16
      have hpv16 : wc.ownsRow 0 3 1 u15 (if pl = 0 then putK d n else []).length (vsOf (if pl = 0 then putK d n else [])) := by
        have h16 := owns_below hpv hbW
        refine owns_base (b2 := 0) (h16.kept hgW ?_) (Nat.zero_le _)
        cases hb : u15.ownBlock with
        | none => exact .inl rfl
        | some g => exact .inr (fun e => by have := (h16.lt g hb).1; have := Option.some.inj e; omega)
      obtain ⟨⟨y0', y1', y2', y3', y4'⟩, -⟩ := box5 hm16
      obtain ⟨⟨p0, p1, p2, p3, p4⟩, -⟩ := box5 hy16
      obtain ⟨⟨i0, i1, i2, i3, i4, i5, i6, i7, i8⟩, -⟩ := box9 ht16
      obtain ⟨⟨j0, j1, j2, j3, j4, j5, j6, j7, j8⟩, -⟩ := box9 hz16
      have cM := sameMove_w hv16 hmv16 hmbn
      go_wp2_with fail
      go_at_call 36
      refine cM.mono ?_
      rintro e w17 ⟨rfl, hk17⟩
      have hm17 := hm16.below hk17 hm16.lt
      have ht17 := ht16.below hk17 ht16.lt
      have hz17 := hz16.below hk17 hz16.lt
      have hb17 := hb16.trans (hk17.mono hb16.size)
      have hpo17 := owns_below hpo16 hk17
      have hao17 := owns_below hao16 hk17
      have hpv17 := owns_below hpv16 hk17
      clear y0' y1' y2' y3' y4' p0 p1 p2 p3 p4 i0 i1 i2 i3 i4 i5 i6 i7 i8 j0 j1 j2 j3 j4 j5 j6 j7 j8
      obtain ⟨⟨i0, i1, i2, i3, i4, i5, i6, i7, i8⟩, -⟩ := box9 ht17
      obtain ⟨⟨j0, j1, j2, j3, j4, j5, j6, j7, j8⟩, -⟩ := box9 hz17
      have hq := eq9 t0 t1 t2 t3 t4 t5 t6 t7 t8
      have hlp : (if pl = 0 then putK d n else []).length ≤ 1000000 := by
        split
        · have := length_putK d n; omega
        · simp
      have cL1 := listL_w (k := pl) (b := u15) (w := w17) (L := if pl = 0 then putK d n else []) (fun h => if_neg h) hlp (ints_of_l hpo17) (fun _ => ints_of_l hpv17)
      go_wp2_with fail
      go_at_call 37
      refine cL1.mono ?_
      rintro e w18 ⟨rfl, hk18⟩
      have cL2 := listL_w (k := asErr k' m') (b := u16) (w := w18) (L := asRes k' m') (fun h => if_neg h) (length_asRes k' m') (ints_of_l (owns_below hao17 hk18)) (fun h => ((hint16 h).below hk17).below hk18)
      go_wp2_with fail
      go_at_call 37
      refine cL2.mono ?_
      rintro e w19 ⟨rfl, hk19⟩
      go_wp2
      go_ret
      exact ⟨rfl, (hb17.trans (hk18.mono hb17.size)).trans (hk19.mono (Nat.le_trans hb17.size hk18.size))⟩
end

theorem fielders_law {w : World} {y0 y1 : Int → Int} {yo yn eo en x lx : Int} {d : Nat → MvD} {n : Nat} {pvv ev mv : Value} (hL : Laid w) (hp : IsStr pvv y0 yo yn) (he : IsStr ev y1 eo en) (hm : IsMoves w mv d n) (hbn : ∀ i, i < n → 0 ≤ (d i).bn) :
    Calls prog 5 #[.agg #[pvv, ev, .bool (decide (lx ≠ 0)), mv], .int .i64 x] w fun e w' => e = .returned (.bool true) ∧ Below w.heap.size w w' := by
  have hp' := hp
  have he' := he
  obtain ⟨l1, rfl, -, -⟩ := hp
  obtain ⟨l2, rfl, -, -⟩ := he
  have hm' := hm
  obtain ⟨ad0, c, rfl, -, -⟩ := hm
  by_cases h : ShortP yn en d n
  · exact fielders_go hL hp' he' hm' h (fun W mv hb h2 => chk_of (hL.below hb) hp' he' h2) (fun W hb => chkR_w (hL.below hb) hp' he' (hm'.below hb)) (fun h0 => (val_of h0 hbn).1)
  · exact fielders_no hL hp' he' hm' h
end Go.Proofs.Tryz
