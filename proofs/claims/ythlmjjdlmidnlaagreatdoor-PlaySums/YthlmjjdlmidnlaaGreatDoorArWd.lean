/- PlaySums returns true, and what was in memory is as it was: by the kit's walk. On the seat of the open Play statements: the row of PlaySums, proved. -/
import Derived.Test.YthlmjjdlmidnlaaGreatDoorArWa
import Derived.Test.YthlmjjdlmidnlaaGreatDoorArVk
import Derived.Deep.RegionWith
import Derived.Deep.RegionHeld3
import Derived.Deep.DeepCutAuto
import Derived.Test.YthlmjjdlmidnlaaGreatDoorArO
namespace Go.Proofs.Tryz
open Go Go.Am Go.RowKit Go.Dr
set_option maxRecDepth 100000

theorem own_form {w : World} {base : Nat} {e : TypeId} {n : Nat} {v : Value} {xs : List Value} (h : w.ownsRow base e 1 v n xs) : ∃ a c, v = .slice a n c ∧ (n = 0 ∨ ∃ g, a = some ⟨g, 0, none⟩) := by
  rcases h.2 with ⟨rfl, h2⟩ | ⟨g, cap, cur, rfl, -⟩
  · have h1 := h.1
    rw [h2] at h1
    have e0 : n = 0 := by simp at h1; omega
    subst e0
    exact ⟨_, _, rfl, .inl rfl⟩
  · exact ⟨_, _, rfl, .inr ⟨g, rfl⟩⟩

/-- What the sums hold after i moves. -/
def SumsI (d : Nat → MvD) (i : Nat) (S A R : Int) (O : Nat) : Prop := S = sumK (fun m => m.bn) d i ∧ O = (putK d i).length ∧ A = sumK adv d i ∧ R = sumK (one runQ) d i
theorem sums_safe {d : Nat → MvD} {i : Nat} {S A R : Int} {O : Nat} (h : SumsI d i S A R O) (hx : (d i).x = 0) : SumsI d (i + 1) (S + (d i).bn) (A + ((d i).to - (d i).fr)) (R + (if (d i).to = 4 then 1 else 0)) O := by
  obtain ⟨rfl, rfl, rfl, rfl⟩ := h
  refine ⟨rfl, ?_, ?_, ?_⟩
  · rw [putK, if_pos hx, List.append_nil]
  · rw [sumK, adv, if_pos hx]
  · rw [sumK, one, runQ]
    by_cases h4 : (d i).to = 4 <;> simp [hx, h4]
theorem sums_out {d : Nat → MvD} {i : Nat} {S A R : Int} {O : Nat} (h : SumsI d i S A R O) (hx : (d i).x ≠ 0) : SumsI d (i + 1) (S + (d i).bn) A R (O + 1) := by
  obtain ⟨rfl, rfl, rfl, rfl⟩ := h
  refine ⟨rfl, ?_, ?_, ?_⟩
  · rw [putK, if_neg hx, List.length_append]; rfl
  · rw [sumK, adv, if_neg hx, Int.add_zero]
  · rw [sumK, one, runQ]; simp [hx]

/-- What MoveOf leaves in the law's round. -/
def CutA (W : World) (m : MvD) (v19 v20 : Value) (wx : World) : Prop := v20 = .int .i64 0 ∧ (∃ g f1 f2 xb s a k c, v19 = .pointer (some ⟨g, 0, none⟩) ∧ At wx g #[.int .i64 f1, .int .i64 f2, .bool xb, .string s, .slice a k c] 27 ∧ IsMvV wx (.agg #[.int .i64 f1, .int .i64 f2, .bool xb, .string s, .slice a k c]) m) ∧ Below W.heap.size W wx
def MvOk (m : MvD) (e : Ending) (w' : World) : Prop := ∃ f1 f2 xb s a k c, e = .returned (.tuple #[.agg #[.int .i64 f1, .int .i64 f2, .bool xb, .string s, .slice a k c], .int .i64 0]) ∧ ∃ B, OwnMvV w' B (.agg #[.int .i64 f1, .int .i64 f2, .bool xb, .string s, .slice a k c]) m
theorem cutA_of {W W' : World} {m : MvD} {f1 f2 : Int} {xb : Bool} {s : ByteArray} {a : Option Addr} {k c : Nat} (h : ∃ B, OwnMvV W' B (.agg #[.int .i64 f1, .int .i64 f2, .bool xb, .string s, .slice a k c]) m) (hb : Below W.heap.size W W') :
    CutA W m (.pointer (some ⟨W'.heap.size, 0, none⟩)) (.int .i64 0) (W'.alloc (.cells #[.int .i64 f1, .int .i64 f2, .bool xb, .string s, .slice a k c] 27)) :=
  ⟨rfl, ⟨_, f1, f2, xb, s, a, k, c, rfl, at_new _ _ _, let ⟨_, h⟩ := h; h.is.below ((Below.refl _ _).alloc (Nat.le_refl _) _)⟩, hb.alloc hb.size _⟩

theorem has_any {w : World} {a : Option Addr} {n k : Nat} {L : List Int} {x : Int} (hn : L.length = n) (hl : n ≤ 1000000) (h : w.ownsRow 0 3 1 (.slice a n k) n (vsOf L)) : Calls prog 52 #[.slice a n k, .int .i64 x] w fun e w' => e = .returned (.bool (decide (x ∈ L))) ∧ Below w.heap.size w w' := by
  obtain ⟨a', c', e, hz⟩ := own_form h
  simp only [Value.slice.injEq, true_and] at e
  obtain ⟨rfl, rfl⟩ := e
  by_cases h0 : n = 0
  · subst h0
    have hL : L = [] := List.length_eq_zero_iff.1 hn
    have hd : decide (x ∈ L) = false := by rw [hL]; simp
    rw [hd]
    exact has_none a k x w
  · obtain ⟨g, rfl⟩ := hz.resolve_left h0
    have := has_some g 0 n k (tl L) 0 x w hl (fun j hj => by
      have hc := h.cellAt j (by omega)
      rw [Nat.zero_add, hc, vsOf, List.getElem?_map]
      have e : tl L (0 + (j : Int)) = L[j] := by
        unfold tl
        rw [show (0 + (j : Int)).toNat = j by omega, List.getElem?_eq_getElem (by omega)]; rfl
      rw [e, List.getElem?_eq_getElem (by omega)]; rfl)
    rw [← hn, hasB_all] at this
    rw [← hn]
    exact this
theorem asL_small (t : Int → Int) (o : Int) (m : Nat) : (asL t o m).length ≤ 1000000 := Nat.le_trans (length_asK t o m 9) (by decide)
/-- What Assists leaves in the law's round. -/
def AsOk (E : Int) (LA : List Int) (e : Ending) (w' : World) : Prop := ∃ a k, e = .returned (.tuple #[.slice a LA.length k, .int .i64 E]) ∧ w'.ownsRow 0 3 1 (.slice a LA.length k) LA.length (vsOf LA)
def CutB (W : World) (E : Int) (LA : List Int) (v21 v22 : Value) (wx : World) : Prop := v22 = .int .i64 E ∧ (∃ a k, v21 = .slice a LA.length k ∧ wx.ownsRow 0 3 1 (.slice a LA.length k) LA.length (vsOf LA)) ∧ Below W.heap.size W wx
theorem asOk_of {B : Nat} {E : Int} {LA : List Int} {m : MvD} {e : Ending} {w' : World} (h : AssW 0 m B e w') (h1 : asErr 0 m = E) (h2 : asRes 0 m = LA) : AsOk E LA e w' := by
  obtain ⟨v, rfl, ho⟩ := h
  rw [h2] at ho
  obtain ⟨a, c, rfl, -⟩ := own_form ho
  rw [h1]
  exact ⟨a, c, rfl, owns_base ho (Nat.zero_le _)⟩
theorem own_set5_other {w : World} {base : Nat} {e : TypeId} {size n : Nat} {v : Value} {xs : List Value} (h : w.ownsRow base e size v n xs) {b : Nat} (hb : v.ownBlock ≠ some b) (v0 v1 v2 v3 v4 : Value) :
    (((((w.setCell ⟨b, 0, none⟩ v0).setCell ⟨b, 1, none⟩ v1).setCell ⟨b, 2, none⟩ v2).setCell ⟨b, 3, none⟩ v3).setCell ⟨b, 4, none⟩ v4).ownsRow base e size v n xs :=
  ownsRow_setCell_other (ownsRow_setCell_other (ownsRow_setCell_other (ownsRow_setCell_other (ownsRow_setCell_other h (a := ⟨b, 0, none⟩) hb v0) (a := ⟨b, 1, none⟩) hb v1) (a := ⟨b, 2, none⟩) hb v2) (a := ⟨b, 3, none⟩) hb v3) (a := ⟨b, 4, none⟩) hb v4
theorem cutA_set {W W' : World} {m : MvD} {g : Nat} {z0 z1 z2 z3 z4 : Value} {f1 f2 : Int} {xb : Bool} {s : ByteArray} {a : Option Addr} {k c : Nat} (h : ∃ B, OwnMvV W' B (.agg #[.int .i64 f1, .int .i64 f2, .bool xb, .string s, .slice a k c]) m) (hz : At W' g #[z0, z1, z2, z3, z4] 27) (hb : Below W.heap.size W W') (hg : W.heap.size ≤ g) :
    CutA W m (.pointer (some ⟨g, 0, none⟩)) (.int .i64 0) (((((W'.setCell ⟨g, 0, none⟩ (.int .i64 f1)).setCell ⟨g, 1, none⟩ (.int .i64 f2)).setCell ⟨g, 2, none⟩ (.bool xb)).setCell ⟨g, 3, none⟩ (.string s)).setCell ⟨g, 4, none⟩ (.slice a k c)) := by
  refine ⟨rfl, ⟨g, f1, f2, xb, s, a, k, c, rfl, set5 hz _ _ _ _ _, ?_⟩, below_set5 hb hg _ _ _ _ _⟩
  obtain ⟨B, sv, bv, e, hs, ho, h0⟩ := h
  refine OwnMvV.is (base := B) ⟨sv, bv, e, hs, own_set5_other ho (fun q => ?_) _ _ _ _ _, h0⟩
  obtain ⟨cs, fz, hc⟩ := Lib.ownsRow_kind ho g q
  unfold At at hz
  rw [hz] at hc
  simp at hc

theorem cells_set5 {W : World} {g : Nat} {z0 z1 z2 z3 z4 : Value} {e e' : TypeId} (_ : At W g #[z0, z1, z2, z3, z4] e) {b : Nat} (hne : b ≠ g) {y0 y1 y2 y3 : Value} (h : At W b #[y0, y1, y2, y3] e') (v0 v1 v2 v3 v4 : Value) :
    (((((W.setCell ⟨g, 0, none⟩ v0).setCell ⟨g, 1, none⟩ v1).setCell ⟨g, 2, none⟩ v2).setCell ⟨g, 3, none⟩ v3).setCell ⟨g, 4, none⟩ v4).cell? ⟨b, 0, none⟩ = some y0 ∧ (((((W.setCell ⟨g, 0, none⟩ v0).setCell ⟨g, 1, none⟩ v1).setCell ⟨g, 2, none⟩ v2).setCell ⟨g, 3, none⟩ v3).setCell ⟨g, 4, none⟩ v4).cell? ⟨b, 1, none⟩ = some y1 ∧
    (((((W.setCell ⟨g, 0, none⟩ v0).setCell ⟨g, 1, none⟩ v1).setCell ⟨g, 2, none⟩ v2).setCell ⟨g, 3, none⟩ v3).setCell ⟨g, 4, none⟩ v4).cell? ⟨b, 2, none⟩ = some y2 ∧ (((((W.setCell ⟨g, 0, none⟩ v0).setCell ⟨g, 1, none⟩ v1).setCell ⟨g, 2, none⟩ v2).setCell ⟨g, 3, none⟩ v3).setCell ⟨g, 4, none⟩ v4).cell? ⟨b, 3, none⟩ = some y3 :=
  (box4 (((((h.setCell (a := ⟨g, 0, none⟩) hne v0).setCell (a := ⟨g, 1, none⟩) hne v1).setCell (a := ⟨g, 2, none⟩) hne v2).setCell (a := ⟨g, 3, none⟩) hne v3).setCell (a := ⟨g, 4, none⟩) hne v4)).1
theorem cells_set5' {W : World} {g : Nat} {z0 z1 z2 z3 z4 : Value} {e e' : TypeId} (_ : At W g #[z0, z1, z2, z3, z4] e) {b : Nat} (hne : b ≠ g) {y0 y1 y2 y3 y4 : Value} (h : At W b #[y0, y1, y2, y3, y4] e') (v0 v1 v2 v3 v4 : Value) :
    (((((W.setCell ⟨g, 0, none⟩ v0).setCell ⟨g, 1, none⟩ v1).setCell ⟨g, 2, none⟩ v2).setCell ⟨g, 3, none⟩ v3).setCell ⟨g, 4, none⟩ v4).cell? ⟨b, 0, none⟩ = some y0 :=
  (box5 (((((h.setCell (a := ⟨g, 0, none⟩) hne v0).setCell (a := ⟨g, 1, none⟩) hne v1).setCell (a := ⟨g, 2, none⟩) hne v2).setCell (a := ⟨g, 3, none⟩) hne v3).setCell (a := ⟨g, 4, none⟩) hne v4)).1.1

section
variable {w : World} {lx : Bool} {d : Nat → MvD} {n : Nat} {s1 s2 : ByteArray} {ad0 : Option Addr} {c : Nat}
theorem sums_no {pl : Int} (hL : Laid w) (hpl : ¬ pl = 0) (hR : ∀ W, Below w.heap.size w W → Calls prog 17 #[.agg #[.string s1, .string s2, .bool lx, .slice ad0 n c]] W fun e w' => e = .returned (.int .i64 pl) ∧ Below W.heap.size W w') :
    Calls prog 8 #[.agg #[.string s1, .string s2, .bool lx, .slice ad0 n c]] w fun e w' => e = .returned (.bool true) ∧ Below w.heap.size w w' := by
  have hB : Below w.heap.size w (w.alloc (.cells #[.string s1, .string s2, .bool lx, .slice ad0 n c] 24)) := (Below.refl _ _).alloc (Nat.le_refl _) _
  have cA := awake_w (hL.below hB)
  go_enter func8, ntmps8
  go_wp2_with fail
  go_at_call 13
  refine cA.mono ?_
  rintro e w1 ⟨rfl, hk1⟩
  have hb1 : Below w.heap.size w w1 := hB.trans (hk1.mono (by simp))
  have hx1 := (at_new _ _ _).below hk1 (at_new _ _ _).lt
  obtain ⟨⟨x0, x1, x2, x3⟩, z0, z1, z2, z3⟩ := box4 hx1
  clear cA
  have cS := hR _ hb1
  go_wp2_with fail
  go_at_call 17
  refine cS.mono ?_
  rintro e w2 ⟨rfl, hk2⟩
  have hb2 : Below w.heap.size w w2 := hb1.trans (hk2.mono hb1.size)
  have cA := awake_w (hL.below hb2)
  go_wp2_with fail
  go_at_call 13
  refine cA.mono ?_
  rintro e w3 ⟨rfl, hk3⟩
  go_wp2
  go_ret
  exact ⟨rfl, hb2.trans (hk3.mono hb2.size)⟩

set_option maxHeartbeats 12800000 in
theorem sums_go (hL : Laid w) (hm : IsMoves w (.slice ad0 n c) d n) (hC : ∀ W mv, Below w.heap.size w W → IsMoves W mv d n → Chk W (.agg #[.string s1, .string s2, .bool lx, mv]) 0)
    (hR : ∀ W, Below w.heap.size w W → Calls prog 17 #[.agg #[.string s1, .string s2, .bool lx, .slice ad0 n c]] W fun e w' => e = .returned (.int .i64 0) ∧ Below W.heap.size W w') (hv : ValP d n) :
    Calls prog 8 #[.agg #[.string s1, .string s2, .bool lx, .slice ad0 n c]] w fun e w' => e = .returned (.bool true) ∧ Below w.heap.size w w' := by
  have hn4 := hv.v.n4
  have hbn : ∀ i, i < n → (d i).bn ≤ 40 := fun i hi => by have := (hv.v.bn i hi).2; omega
  have hbn2 : ∀ i, i < n → (d i).bn ≤ 1000000 := fun i hi => by have := hbn i hi; omega
  have hB : Below w.heap.size w (w.alloc (.cells #[.string s1, .string s2, .bool lx, .slice ad0 n c] 24)) := (Below.refl _ _).alloc (Nat.le_refl _) _
  have cA := awake_w (hL.below hB)
  have cP : ∀ W, Below w.heap.size w W → Calls prog 16 #[.agg #[.string s1, .string s2, .bool lx, .slice ad0 n c]] W fun e w' => ∃ a k, e = .returned (.agg #[.string s1, .string s2, .bool lx, .slice a n k]) ∧ IsMoves w' (.slice a n k) d n ∧ Below W.heap.size W w' := fun W hW => by
    refine (copied_w (s1 := s1) (s2 := s2) (lx := lx) (hm.below hW) (by omega) hbn).mono ?_
    rintro e w' ⟨v, rfl, hm', hB⟩
    have hm2 := hm'
    obtain ⟨a, k, rfl, -, -⟩ := hm'
    exact ⟨a, k, rfl, hm2, hB⟩
  obtain ⟨t0, t1, t2, t3, t4, t5, t6, t7, t8, ht⟩ := nine (length_outT d n)
  have ht' : tchL d n = [t0, t1, t2, t3, t4, t5, t6, t7, t8] := ht
  obtain ⟨L, hLL⟩ : ∃ L, (putK d n).length = L := ⟨_, rfl⟩
  obtain ⟨A, hA⟩ : ∃ A, sumK adv d n = A := ⟨_, rfl⟩
  obtain ⟨Rn, hRn⟩ : ∃ R, sumK (one runQ) d n = R := ⟨_, rfl⟩
  have hLs := putK_len d n
  rw [hLL] at hLs
  have HD : Hid ((putK d n).length = L ∧ sumK adv d n = A ∧ sumK (one runQ) d n = Rn ∧ (L : Int) = sumK (one outQ) d n) := Lib.hid ⟨hLL, hA, hRn, hLs⟩
  clear hLL hA hRn hLs
  go_enter func8, ntmps8
  go_wp2_with fail
  go_at_call 13
  refine cA.mono ?_
  rintro e w1 ⟨rfl, hk1⟩
  have hb1 : Below w.heap.size w w1 := hB.trans (hk1.mono (by simp))
  have hx1 := (at_new _ _ _).below hk1 (at_new _ _ _).lt
  obtain ⟨⟨x0, x1, x2, x3⟩, z0, z1, z2, z3⟩ := box4 hx1
  clear cA
  go_wp2_with fail
  go_at_call 17
  refine (hR _ hb1).mono ?_
  rintro e w2 ⟨rfl, hk2⟩
  have hb2 : Below w.heap.size w w2 := hb1.trans (hk2.mono hb1.size)
  have hx2 := hx1.below hk2 hx1.lt
  clear x0 x1 x2 x3 z0 z1 z2 z3 hk1 hk2
  obtain ⟨⟨x0, x1, x2, x3⟩, z0, z1, z2, z3⟩ := box4 hx2
  go_wp2_with fail
  go_at_call 16
  refine (cP _ hb2).mono ?_
  rintro e w3 ⟨a3, k3, rfl, hm3, hk3⟩
  have hb3 : Below w.heap.size w w3 := hb2.trans (hk3.mono hb2.size)
  have hx3 := hx2.below hk3 hx2.lt
  have cO := outs_w (hC _ _ hb3 hm3) hm3 (by omega)
  clear x0 x1 x2 x3 z0 z1 z2 z3 hk3
  unfold NumW at cO
  rw [if_pos rfl, ← HD.out.2.2.2] at cO
  go_wp2_with fail
  go_at_call 45
  refine cO.mono ?_
  rintro e w4 ⟨rfl, hk4⟩
  have hb4 : Below w.heap.size w w4 := hb3.trans (hk4.mono hb3.size)
  have hx4 := hx3.below hk4 hx3.lt
  clear cO hk4 hm3
  obtain ⟨⟨x0, x1, x2, x3⟩, z0, z1, z2, z3⟩ := box4 hx4
  go_wp2_with fail
  go_at_call 16
  refine (cP _ hb4).mono ?_
  rintro e w5 ⟨a5, k5, rfl, hm5, hk5⟩
  have hb5 : Below w.heap.size w w5 := hb4.trans (hk5.mono hb4.size)
  have hx5 := hx4.below hk5 hx4.lt
  have cO := puts_w (hC _ _ hb5 hm5) hm5 (fun _ => hv.v)
  clear x0 x1 x2 x3 z0 z1 z2 z3 hk5
  go_wp2_with fail
  go_at_call 28
  refine cO.mono ?_
  rintro e w6 ⟨⟨po, rfl, hpo⟩, hk6⟩
  rw [if_pos rfl, HD.out.1] at hpo
  obtain ⟨ap, kp, rfl, hap⟩ := own_form hpo
  have hb6 : Below w.heap.size w w6 := hb5.trans (hk6.mono hb5.size)
  have hx6 := hx5.below hk6 hx5.lt
  clear cO hk6 hm5
  obtain ⟨⟨x0, x1, x2, x3⟩, z0, z1, z2, z3⟩ := box4 hx6
  go_wp2_with fail
  go_at_call 16
  refine (cP _ hb6).mono ?_
  rintro e w7 ⟨a7, k7, rfl, hm7, hk7⟩
  have hb7 : Below w.heap.size w w7 := hb6.trans (hk7.mono hb6.size)
  have hx7 := hx6.below hk7 hx6.lt
  have hpo7 := owns_below hpo hk7
  have cO := touchP_w (hC _ _ hb7 hm7) hm7 (fun _ => hv.v)
  unfold tchP at cO
  rw [if_pos rfl, ht'] at cO
  simp only [cntA, List.map_cons, List.map_nil, vi] at cO
  clear x0 x1 x2 x3 z0 z1 z2 z3 hk7 hpo
  go_wp2_with fail
  go_at_call 27
  refine cO.mono ?_
  rintro e w8 ⟨rfl, hk8⟩
  have hb8 : Below w.heap.size w w8 := hb7.trans (hk8.mono hb7.size)
  have hx8 := hx7.below hk8 hx7.lt
  have hpo8 := owns_below hpo7 hk8
  have l8 := hx8.lt
  have hb8' := hb8.alloc hb8.size (.cells #[.int .i64 t0, .int .i64 t1, .int .i64 t2, .int .i64 t3, .int .i64 t4, .int .i64 t5, .int .i64 t6, .int .i64 t7, .int .i64 t8] 49)
  have ht8 := at_new w8 #[.int .i64 t0, .int .i64 t1, .int .i64 t2, .int .i64 t3, .int .i64 t4, .int .i64 t5, .int .i64 t6, .int .i64 t7, .int .i64 t8] 49
  have hpo8' := hpo8.alloc (.cells #[.int .i64 t0, .int .i64 t1, .int .i64 t2, .int .i64 t3, .int .i64 t4, .int .i64 t5, .int .i64 t6, .int .i64 t7, .int .i64 t8] 49)
  have hx8' := hx8.alloc (.cells #[.int .i64 t0, .int .i64 t1, .int .i64 t2, .int .i64 t3, .int .i64 t4, .int .i64 t5, .int .i64 t6, .int .i64 t7, .int .i64 t8] 49)
  clear cO hk8 hm7 hpo7
  obtain ⟨⟨x0, x1, x2, x3⟩, z0, z1, z2, z3⟩ := box4 hx8
  go_wp2_with fail
  go_at_call 16
  refine (cP _ hb8').mono ?_
  rintro e w9 ⟨a9, k9, rfl, hm9, hk9⟩
  have hb9 : Below w.heap.size w w9 := hb8'.trans (hk9.mono hb8'.size)
  have hx9 := hx8'.below hk9 hx8'.lt
  have hpo9 := owns_below hpo8' hk9
  have ht9 := ht8.below hk9 ht8.lt
  have cO := adv_w (hC _ _ hb9 hm9) hm9 (fun _ => ⟨hn4, fun i hi => ⟨hv.v.fr i hi, hv.to i hi⟩⟩)
  unfold NumW at cO
  rw [if_pos rfl, HD.out.2.1] at cO
  clear x0 x1 x2 x3 z0 z1 z2 z3 hk9 hpo8 hpo8' hx8 hx8' ht8 hb8 l8
  go_wp2_with fail
  go_at_call 47
  refine cO.mono ?_
  rintro e w10 ⟨rfl, hk10⟩
  have hb10 : Below w.heap.size w w10 := hb9.trans (hk10.mono hb9.size)
  have hx10 := hx9.below hk10 hx9.lt
  have hpo10 := owns_below hpo9 hk10
  have ht10 := ht9.below hk10 ht9.lt
  clear cO hk10 hm9
  obtain ⟨⟨x0, x1, x2, x3⟩, z0, z1, z2, z3⟩ := box4 hx10
  go_wp2_with fail
  go_at_call 16
  refine (cP _ hb10).mono ?_
  rintro e w11 ⟨a11, k11, rfl, hm11, hk11⟩
  have hb11 : Below w.heap.size w w11 := hb10.trans (hk11.mono hb10.size)
  have hx11 := hx10.below hk11 hx10.lt
  have hpo11 := owns_below hpo10 hk11
  have ht11 := ht10.below hk11 ht10.lt
  have cO := runs_w (hC _ _ hb11 hm11) hm11 (by omega)
  unfold NumW at cO
  rw [if_pos rfl, HD.out.2.2.1] at cO
  clear x0 x1 x2 x3 z0 z1 z2 z3 hk11
  go_wp2_with fail
  go_at_call 46
  refine cO.mono ?_
  rintro e w12 ⟨rfl, hk12⟩
  have hb12 : Below w.heap.size w w12 := hb11.trans (hk12.mono hb11.size)
  have hx12 := hx11.below hk12 hx11.lt
  have hpo12 := owns_below hpo11 hk12
  have ht12 := ht11.below hk12 ht11.lt
  clear cO hk12 hm11 hb1 hb2 hb3 hb4 hb5 hb6 hb7 hb8' hb9 hb10 hb11 hx1 hx2 hx3 hx4 hx5 hx6 hx7 hx9 hx10 hx11 hpo9 hpo10 hpo11 ht9 ht10 ht11
  obtain ⟨⟨x0, x1, x2, x3⟩, z0, z1, z2, z3⟩ := box4 hx12
  go_wp2_with fail
  go_loopw [13, 14, 15, 16, 95] (fun a b cc e z wr => ∃ (i O : Nat) (S A' R : Int), i ≤ n ∧ z = .int .i64 i ∧ a = .int .i64 S ∧ b = .int .i64 O ∧ cc = .int .i64 A' ∧ e = .int .i64 R ∧ SumsI d i S A' R O ∧ (0 ≤ S ∧ S ≤ 9 * i) ∧ (-(4 * (i : Int)) ≤ A' ∧ A' ≤ 4 * i) ∧ (0 ≤ R ∧ R ≤ i) ∧ O ≤ i ∧
      At wr w.heap.size #[.string s1, .string s2, .bool lx, .slice ad0 n c] 24 ∧ At wr w8.heap.size #[.int .i64 t0, .int .i64 t1, .int .i64 t2, .int .i64 t3, .int .i64 t4, .int .i64 t5, .int .i64 t6, .int .i64 t7, .int .i64 t8] 49 ∧ wr.ownsRow w5.heap.size 3 1 (.slice ap L kp) L (vsOf (putK d n)) ∧ Below w.heap.size w wr) (fun _ _ _ _ z _ => n - (numOf' z).toNat)
  case atStart => exact ⟨0, 0, 0, 0, 0, Nat.zero_le _, rfl, rfl, rfl, rfl, rfl, ⟨rfl, rfl, rfl, rfl⟩, ⟨by omega, by omega⟩, ⟨by omega, by omega⟩, ⟨by omega, by omega⟩, Nat.le_refl _, hx12, ht12, hpo12, hb12⟩
  case round =>
    as_aux_lemma =>
      clear x0 x1 x2 x3 z0 z1 z2 z3 hx12 ht12 hpo12 hb12
      obtain ⟨i, O, S, A', R, hi, rfl, rfl, rfl, rfl, rfl, hSI, ⟨hS0, hS1⟩, ⟨hA0, hA1⟩, ⟨hR0, hR1⟩, hO, hx, htt, hpo, hb⟩ := hrel
      obtain ⟨⟨x0, x1, x2, x3⟩, z0, z1, z2, z3⟩ := box4 hx
      by_cases hin : i < n
      · have hm' := hm
        obtain ⟨aM, cM, eM, hnc, hM0⟩ := hm'
        simp only [Value.slice.injEq, true_and] at eM
        obtain ⟨rfl, rfl⟩ := eM
        obtain ⟨b, off, rfl, hM⟩ := hM0 (by omega)
        obtain ⟨s, adm, mm, cm, hmv0⟩ := mv_at (hM i hin)
        have hmv := hmv0.below hb
        obtain ⟨p0, p1, p2, p3, p4, hstr, -, hbnm, -⟩ := hmv
        have hbn9 := hv.v.bn i hin
        have hm9 : mm ≤ 9 := by omega
        have hfr := hv.v.fr i hin
        have hto := hv.to i hin
        obtain ⟨xc, hxc⟩ : ∃ xc : Bool, decide ((d i).x ≠ 0) = xc := ⟨_, rfl⟩
        obtain ⟨g1, hg1⟩ : ∃ f1, (d i).fr = f1 := ⟨_, rfl⟩
        obtain ⟨g2, hg2⟩ : ∃ f2, (d i).to = f2 := ⟨_, rfl⟩
        have HG : Hid ((d i).fr = g1 ∧ (d i).to = g2 ∧ decide ((d i).x ≠ 0) = xc ∧ (mm : Int) = (d i).bn) := Lib.hid ⟨hg1, hg2, hxc, hbnm⟩
        rw [hxc] at p2
        rw [hg1] at p0 hfr
        rw [hg2] at p1 hto
        clear hM hM0 hg1 hg2 hxc hbnm hbn9
        have lM := hx.lt
        have hb1 := hb.alloc hb.size (.cells #[.int .i64 g1, .int .i64 g2, .bool xc, .string s, .slice adm mm cm] 27)
        have hx1 := hx.alloc (.cells #[.int .i64 g1, .int .i64 g2, .bool xc, .string s, .slice adm mm cm] 27)
        have hm1 := at_new wr #[.int .i64 g1, .int .i64 g2, .bool xc, .string s, .slice adm mm cm] 27
        have cM : ∀ W a k, Below w.heap.size w W → IsMoves W (.slice a n k) d n → Calls prog 26 #[.agg #[.string s1, .string s2, .bool lx, .slice a n k], .int .i64 g1] W fun e w' => MvOk (d i) e w' ∧ Below W.heap.size W w' := fun W a k hW hmW => by
          refine (moveOf26_w (x := g1) (hC _ _ hW hmW) hmW (by omega) hbn2).mono ?_
          rintro e w' ⟨⟨v, k', m', rfl, hv', ha'⟩, hB'⟩
          have ha := asked_at hv hin
          rw [HG.out.1] at ha
          obtain ⟨rfl, rfl⟩ := asked_one ha ha'
          have hi' := hv'
          obtain ⟨q1, q2, qb, qs, qa, qk, qc, rfl, -, -, -, -, -, -⟩ := hv'.parts
          exact ⟨⟨q1, q2, qb, qs, qa, qk, qc, rfl, _, hi'⟩, hB'⟩
        have sW1 : (wr.alloc (.cells #[.int .i64 g1, .int .i64 g2, .bool xc, .string s, .slice adm mm cm] 27)).heap.size = wr.heap.size + 1 := by simp
        have htt1 := htt.alloc (.cells #[.int .i64 g1, .int .i64 g2, .bool xc, .string s, .slice adm mm cm] 27)
        have hpo1 := hpo.alloc (.cells #[.int .i64 g1, .int .i64 g2, .bool xc, .string s, .slice adm mm cm] 27)
        go_wp2_with fail
        generalize hW1 : wr.alloc (.cells #[.int .i64 g1, .int .i64 g2, .bool xc, .string s, .slice adm mm cm] 27) = W1 at hb1 hx1 hm1 sW1 htt1 hpo1 ⊢
        clear hW1 hx htt hpo hb
        obtain ⟨⟨x0, x1, x2, x3⟩, z0, z1, z2, z3⟩ := box4 hx1
        obtain ⟨⟨y0, y1, y2, y3, y4⟩, -⟩ := box5 hm1
        have hdr : Below W1.heap.size W1 W1.drew := (Below.refl _ _).drew
        have hdz : Below W1.heap.size W1 (W1.alloc (.cells #[.int .i64 0, .int .i64 0, .bool false, .string ⟨#[]⟩, .slice none 0 0] 27)).drew := ((Below.refl _ _).alloc (Nat.le_refl _) _).drew
        clear p0 p1 p2 p3 p4
        have lM1 : wr.heap.size < W1.heap.size := by omega
        have lM2 : w.heap.size < W1.heap.size := by omega
        clear sW1
        go_cut [19, 20] (fun s19 s20 wx => CutA W1 (d i) s19 s20 wx)
        case first =>
          as_aux_lemma =>
            go_region_held3 (fun W => W.cell? ⟨w.heap.size, 0, none⟩ = some (.string s1) ∧ W.cell? ⟨w.heap.size, 1, none⟩ = some (.string s2) ∧ W.cell? ⟨w.heap.size, 2, none⟩ = some (.bool lx) ∧ W.cell? ⟨w.heap.size, 3, none⟩ = some (.slice (some ⟨b, off, none⟩) n c) ∧ W.cell? ⟨wr.heap.size, 0, none⟩ = some (.int .i64 g1) ∧ Below W1.heap.size W1 W)
              (go_keep)
              (first
                | (go_at_call 16; refine Calls.mono (cP _ ?_) ?_; (exact hb1.trans (Below.mono (B := W1.heap.size) (by assumption) hb1.size)); rintro e W ⟨a3, k3, rfl, hm3, hkk⟩; have hbk := Below.trans (B := W1.heap.size) (a := W1) (by assumption) (Below.mono hkk (Below.size (B := W1.heap.size) (w := W1) (by assumption))); have hbk0 := hbk; have lW := Nat.lt_of_lt_of_le lM1 (Below.size hbk); obtain ⟨⟨j0, j1, j2, j3⟩, -⟩ := box4 (hx1.below hbk hx1.lt); obtain ⟨⟨k0, -, -, -, -⟩, -⟩ := box5 (hm1.below hbk hm1.lt); have hbz := Below.alloc hbk (Below.size hbk) (.cells #[.int .i64 0, .int .i64 0, .bool false, .string ⟨#[]⟩, .slice none 0 0] 27); (first | (have hz := At.below (at_new W1 #[.int .i64 0, .int .i64 0, .bool false, .string ⟨#[]⟩, .slice none 0 0] 27).drew hkk (at_new W1 #[.int .i64 0, .int .i64 0, .bool false, .string ⟨#[]⟩, .slice none 0 0] 27).drew.lt; obtain ⟨⟨u0, u1, u2, u3, u4⟩, o0, o1, o2, o3, o4⟩ := box5 hz) | skip))
                | (go_at_call 26; refine Calls.mono (cM _ _ _ ?_ ?_) ?_; (exact hb1.trans (Below.mono (B := W1.heap.size) (by assumption) hb1.size)); (first | exact hm3 | exact hm3.below ((Below.refl _ _).alloc (Nat.le_refl _) _)); rintro e W' ⟨⟨q1, q2, qb, qs, qa, qk, qc, rfl, hq⟩, hkk2⟩; have hbk := Below.trans (B := W1.heap.size) (a := W1) (by assumption) (Below.mono hkk2 (Below.size (B := W1.heap.size) (w := W1) (by assumption))); have lW2 := Nat.lt_of_lt_of_le lM1 (Below.size hbk); obtain ⟨⟨j0, j1, j2, j3⟩, -⟩ := box4 (hx1.below hbk hx1.lt); obtain ⟨⟨k0, -, -, -, -⟩, -⟩ := box5 (hm1.below hbk hm1.lt); have hbz := Below.alloc hbk (Below.size hbk) (.cells #[.int .i64 0, .int .i64 0, .bool false, .string ⟨#[]⟩, .slice none 0 0] 27); have hby := Below.alloc hbk (Below.size hbk) (.cells #[.int .i64 q1, .int .i64 q2, .bool qb, .string qs, .slice qa qk qc] 27);
                    (first
                      | (have hz2 := At.below hz hkk2 hz.lt; obtain ⟨⟨u0, u1, u2, u3, u4⟩, o0, o1, o2, o3, o4⟩ := box5 hz2; have hbs := below_set5 hbk (b := W1.heap.size) (by first | exact Nat.le_refl _ | exact Below.size hbk0) (.int .i64 q1) (.int .i64 q2) (.bool qb) (.string qs) (.slice qa qk qc); have hr5 := cells_set5 hz2 (b := w.heap.size) (by omega) (hx1.below hbk hx1.lt) (.int .i64 q1) (.int .i64 q2) (.bool qb) (.string qs) (.slice qa qk qc); have hr6 := cells_set5' hz2 (b := wr.heap.size) (by omega) (hm1.below hbk hm1.lt) (.int .i64 q1) (.int .i64 q2) (.bool qb) (.string qs) (.slice qa qk qc); obtain ⟨v0, v1, v2, v3⟩ := hr5)
                      | (have hz2 := At.below (at_new W #[.int .i64 0, .int .i64 0, .bool false, .string ⟨#[]⟩, .slice none 0 0] 27) hkk2 (at_new W #[.int .i64 0, .int .i64 0, .bool false, .string ⟨#[]⟩, .slice none 0 0] 27).lt; obtain ⟨⟨u0, u1, u2, u3, u4⟩, o0, o1, o2, o3, o4⟩ := box5 hz2; have hbs := below_set5 hbk (b := W.heap.size) (by first | exact Nat.le_refl _ | exact Below.size hbk0) (.int .i64 q1) (.int .i64 q2) (.bool qb) (.string qs) (.slice qa qk qc); have hr5 := cells_set5 hz2 (b := w.heap.size) (by omega) (hx1.below hbk hx1.lt) (.int .i64 q1) (.int .i64 q2) (.bool qb) (.string qs) (.slice qa qk qc); have hr6 := cells_set5' hz2 (b := wr.heap.size) (by omega) (hm1.below hbk hm1.lt) (.int .i64 q1) (.int .i64 q2) (.bool qb) (.string qs) (.slice qa qk qc); obtain ⟨v0, v1, v2, v3⟩ := hr5)
                      | skip)))
            all_goals (go_wp2_with fail; go_meet; first | (with_reducible exact cutA_of hq hbk) | (refine cutA_set hq hz2 hbk ?_; first | exact Nat.le_refl _ | exact Below.size hbk0))
        case rest =>
          as_aux_lemma =>
            clear x0 x1 x2 x3 z0 z1 z2 z3 y0 y1 y2 y3 y4 hdr hdz
            obtain ⟨rfl, ⟨gg, q1, q2, qb, qs, qa, qk, qc, rfl, hgg, hgm⟩, hbA⟩ := hcut
            have hx2 := hx1.below hbA hx1.lt
            have hm2 := hm1.below hbA hm1.lt
            have htt2 := htt1.below hbA htt1.lt
            have hpo2 := owns_below hpo1 hbA
            have hb2 := hb1.trans (hbA.mono hb1.size)
            have lg := hgg.lt
            have hmi : IsMvV wc (.agg #[.int .i64 g1, .int .i64 g2, .bool xc, .string s, .slice adm mm cm]) (d i) := ⟨.string s, _, by rw [HG.out.1, HG.out.2.1, HG.out.2.2.1]; rfl, hstr, hmv0.ints.below hb2⟩
            have cS := sameMove_w hgm hmi (hbn2 i hin)
            obtain ⟨⟨y0, y1, y2, y3, y4⟩, -⟩ := box5 hm2
            obtain ⟨⟨v0, v1, v2, v3, v4⟩, -⟩ := box5 hgg
            clear hx1 hm1 htt1 hpo1 hb1 hgm hmi
            go_wp2_with fail
            go_at_call 36
            refine cS.mono ?_
            rintro e w20 ⟨rfl, hk20⟩
            have hx3 := hx2.below hk20 hx2.lt
            have hm3 := hm2.below hk20 hm2.lt
            have htt3 := htt2.below hk20 htt2.lt
            have hpo3 := owns_below hpo2 hk20
            have hb3 := hb2.trans (hk20.mono hb2.size)
            clear y0 y1 y2 y3 y4 v0 v1 v2 v3 v4 hx2 hm2 htt2 hpo2 hb2 hbA lg hgg hk20
            obtain ⟨⟨y0, y1, y2, y3, y4⟩, -⟩ := box5 hm3
            obtain ⟨⟨x0, x1, x2, x3⟩, -⟩ := box4 hx3
            have hdr : Below w20.heap.size w20 w20.drew := (Below.refl _ _).drew
            go_wp2_with fail
            by_cases hxx : (d i).x = 0
            · obtain ⟨LA, hLA⟩ : ∃ LA, LA = ([] : List Int) := ⟨_, rfl⟩
              have HE : Hid (asErr 0 (d i) = 15 ∧ asRes 0 (d i) = LA) := Lib.hid ⟨by unfold asErr; rw [if_pos rfl, if_pos hxx], by rw [hLA]; unfold asRes asErr; rw [if_pos rfl, if_pos hxx]; rfl⟩
              clear hLA
              have cAs : ∀ W a k, Below w.heap.size w W → IsMoves W (.slice a n k) d n → Calls prog 29 #[.agg #[.string s1, .string s2, .bool lx, .slice a n k], .int .i64 g1] W fun e w' => AsOk 15 LA e w' ∧ Below W.heap.size W w' := fun W a k hW hmW => by
                have ha := asked_at hv hin
                rw [HG.out.1] at ha
                refine (ass_w (x := g1) (hC _ _ hW hmW) hmW (by omega) hbn2 ha (fun _ => hv.v)).mono ?_
                rintro e w' ⟨hA, hB'⟩
                exact ⟨asOk_of hA HE.out.1 HE.out.2, hB'⟩
              go_cut [21, 22] (fun s21 s22 wx => CutB w20 15 LA s21 s22 wx)
              case first =>
                as_aux_lemma =>
                  go_region_held3 (fun W => W.cell? ⟨w.heap.size, 0, none⟩ = some (.string s1) ∧ W.cell? ⟨w.heap.size, 1, none⟩ = some (.string s2) ∧ W.cell? ⟨w.heap.size, 2, none⟩ = some (.bool lx) ∧ W.cell? ⟨w.heap.size, 3, none⟩ = some (.slice (some ⟨b, off, none⟩) n c) ∧ W.cell? ⟨wr.heap.size, 0, none⟩ = some (.int .i64 g1) ∧ Below w20.heap.size w20 W)
                    (go_keep)
                    (first
                      | (go_at_call 16; refine Calls.mono (cP _ ?_) ?_; (exact hb3.trans (Below.mono (B := w20.heap.size) (by assumption) hb3.size)); rintro e W ⟨a3, k3, rfl, hm3', hkk⟩; have hbk := Below.trans (B := w20.heap.size) (a := w20) (by assumption) (Below.mono hkk (Below.size (B := w20.heap.size) (w := w20) (by assumption))); obtain ⟨⟨j0, j1, j2, j3⟩, -⟩ := box4 (hx3.below hbk hx3.lt); obtain ⟨⟨k0, -, -, -, -⟩, -⟩ := box5 (hm3.below hbk hm3.lt))
                      | (go_at_call 29; refine Calls.mono (cAs _ _ _ ?_ hm3') ?_; (exact hb3.trans (Below.mono (B := w20.heap.size) (by assumption) hb3.size)); rintro e W' ⟨⟨av, ak, rfl, hao⟩, hkk2⟩; have hbk := Below.trans (B := w20.heap.size) (a := w20) (by assumption) (Below.mono hkk2 (Below.size (B := w20.heap.size) (w := w20) (by assumption))); obtain ⟨⟨j0, j1, j2, j3⟩, -⟩ := box4 (hx3.below hbk hx3.lt); obtain ⟨⟨k0, -, -, -, -⟩, -⟩ := box5 (hm3.below hbk hm3.lt)))
                  all_goals (go_wp2_with fail; go_meet; exact ⟨rfl, ⟨_, _, rfl, hao⟩, hbk⟩)
              case rest =>
                as_aux_lemma =>
                  obtain ⟨rfl, ⟨la, lk, rfl, hlo⟩, hbB⟩ := hcut
                  have hx4 := hx3.below hbB hx3.lt
                  have hm4 := hm3.below hbB hm3.lt
                  have htt4 := htt3.below hbB htt3.lt
                  have hpo4 := owns_below hpo3 hbB
                  have hb4 := hb3.trans (hbB.mono hb3.size)
                  have hxf : xc = false := by rw [← HG.out.2.2.1]; simp [hxx]
                  subst hxf
                  have HS := Lib.hid (sums_safe hSI hxx)
                  clear x0 x1 x2 x3 y0 y1 y2 y3 y4 hx3 hm3 htt3 hpo3 hb3 hbB hdr hlo hSI hxx HE
                  obtain ⟨⟨y0, y1, y2, y3, y4⟩, -⟩ := box5 hm4
                  by_cases h4 : g2 = 4
                  · subst h4
                    have HT : Hid (SumsI d (i + 1) (S + mm) (A' + (4 - g1)) (R + 1) O) := Lib.hid (by have := HS.out; rw [HG.out.1, HG.out.2.1, ← HG.out.2.2.2, if_pos rfl] at this; exact this)
                    go_wp2
                    go_roundw
                    case rel => exact ⟨i + 1, O, _, _, _, by omega, by go_num, rfl, rfl, rfl, rfl, HT.out, ⟨by omega, by omega⟩, ⟨by omega, by omega⟩, ⟨by omega, by omega⟩, by omega, hx4, htt4, hpo4, hb4⟩
                    case measure => simp [numOf'] <;> omega
                  · have HT : Hid (SumsI d (i + 1) (S + mm) (A' + (g2 - g1)) R O) := Lib.hid (by have := HS.out; rw [HG.out.1, HG.out.2.1, ← HG.out.2.2.2, if_neg h4, Int.add_zero] at this; exact this)
                    go_wp2
                    go_roundw
                    case rel => exact ⟨i + 1, O, _, _, _, by omega, by go_num, rfl, rfl, rfl, rfl, HT.out, ⟨by omega, by omega⟩, ⟨by omega, by omega⟩, ⟨by omega, by omega⟩, by omega, hx4, htt4, hpo4, hb4⟩
                    case measure => simp [numOf'] <;> omega
            · obtain ⟨LA, hLA⟩ : ∃ LA, LA = asL (d i).t (d i).bo (d i).bn.toNat := ⟨_, rfl⟩
              have HE : Hid (asErr 0 (d i) = 0 ∧ asRes 0 (d i) = LA) := Lib.hid ⟨by unfold asErr; rw [if_pos rfl, if_neg hxx], by rw [hLA]; unfold asRes asErr; rw [if_pos rfl, if_neg hxx, if_pos rfl]⟩
              have HLA := Lib.hid hLA
              clear hLA
              have cAs : ∀ W a k, Below w.heap.size w W → IsMoves W (.slice a n k) d n → Calls prog 29 #[.agg #[.string s1, .string s2, .bool lx, .slice a n k], .int .i64 g1] W fun e w' => AsOk 0 LA e w' ∧ Below W.heap.size W w' := fun W a k hW hmW => by
                have ha := asked_at hv hin
                rw [HG.out.1] at ha
                refine (ass_w (x := g1) (hC _ _ hW hmW) hmW (by omega) hbn2 ha (fun _ => hv.v)).mono ?_
                rintro e w' ⟨hA, hB'⟩
                exact ⟨asOk_of hA HE.out.1 HE.out.2, hB'⟩
              go_cut [21, 22] (fun s21 s22 wx => CutB w20 0 LA s21 s22 wx)
              case first =>
                as_aux_lemma =>
                  go_region_held3 (fun W => W.cell? ⟨w.heap.size, 0, none⟩ = some (.string s1) ∧ W.cell? ⟨w.heap.size, 1, none⟩ = some (.string s2) ∧ W.cell? ⟨w.heap.size, 2, none⟩ = some (.bool lx) ∧ W.cell? ⟨w.heap.size, 3, none⟩ = some (.slice (some ⟨b, off, none⟩) n c) ∧ W.cell? ⟨wr.heap.size, 0, none⟩ = some (.int .i64 g1) ∧ Below w20.heap.size w20 W)
                    (go_keep)
                    (first
                      | (go_at_call 16; refine Calls.mono (cP _ ?_) ?_; (exact hb3.trans (Below.mono (B := w20.heap.size) (by assumption) hb3.size)); rintro e W ⟨a3, k3, rfl, hm3', hkk⟩; have hbk := Below.trans (B := w20.heap.size) (a := w20) (by assumption) (Below.mono hkk (Below.size (B := w20.heap.size) (w := w20) (by assumption))); obtain ⟨⟨j0, j1, j2, j3⟩, -⟩ := box4 (hx3.below hbk hx3.lt); obtain ⟨⟨k0, -, -, -, -⟩, -⟩ := box5 (hm3.below hbk hm3.lt))
                      | (go_at_call 29; refine Calls.mono (cAs _ _ _ ?_ hm3') ?_; (exact hb3.trans (Below.mono (B := w20.heap.size) (by assumption) hb3.size)); rintro e W' ⟨⟨av, ak, rfl, hao⟩, hkk2⟩; have hbk := Below.trans (B := w20.heap.size) (a := w20) (by assumption) (Below.mono hkk2 (Below.size (B := w20.heap.size) (w := w20) (by assumption))); obtain ⟨⟨j0, j1, j2, j3⟩, -⟩ := box4 (hx3.below hbk hx3.lt); obtain ⟨⟨k0, -, -, -, -⟩, -⟩ := box5 (hm3.below hbk hm3.lt)))
                  all_goals (go_wp2_with fail; go_meet; exact ⟨rfl, ⟨_, _, rfl, hao⟩, hbk⟩)
              case rest =>
                as_aux_lemma =>
                  obtain ⟨rfl, ⟨la, lk, rfl, hlo⟩, hbB⟩ := hcut
                  have hx4 := hx3.below hbB hx3.lt
                  have hm4 := hm3.below hbB hm3.lt
                  have htt4 := htt3.below hbB htt3.lt
                  have hpo4 := owns_below hpo3 hbB
                  have hb4 := hb3.trans (hbB.mono hb3.size)
                  have hxt : xc = true := by rw [← HG.out.2.2.1]; simp [hxx]
                  subst hxt
                  have HS := Lib.hid (sums_out hSI hxx)
                  have hOl : (putK d i).length = O := hSI.2.1.symm
                  have hpa := putK_at hin hxx
                  rw [hOl] at hpa
                  have hOL : O < L := by
                    have := (List.getElem?_eq_some_iff.1 hpa).1
                    rw [HD.out.1] at this; exact this
                  have hb1n := hv.v.out i hin hxx
                  have hmm1 : 1 ≤ mm := by have := HG.out.2.2.2; omega
                  obtain ⟨gp, rfl⟩ : ∃ g, ap = some ⟨g, 0, none⟩ := by
                    rcases hap with h | h
                    · omega
                    · exact h
                  obtain ⟨b2, o2, rfl, hrow0⟩ := hmv0.row (by omega)
                  have em : (d i).bn.toNat = mm := by have := HG.out.2.2.2; omega
                  obtain ⟨lz, hlz⟩ : ∃ lz, lastT (d i) = lz := ⟨_, rfl⟩
                  have hlast0 : (d i).t ((d i).bo + ((mm - 1 : Nat) : Int)) = lz := by rw [← hlz, lastT, em]
                  have hpc : wc.cell? ⟨gp, O, none⟩ = some (.int .i64 lz) := by
                    have hcl := (List.getElem?_eq_some_iff.1 hpa).1
                    rw [hpo4.cellAt O (by omega), vsOf, List.getElem?_map, hpa, hlz]; rfl
                  have hlc : wc.cell? ⟨b2, o2 + (mm - 1), none⟩ = some (.int .i64 lz) := by
                    have h0 := hrow0 (mm - 1) (by omega)
                    rw [hlast0] at h0
                    exact (hb4.cell (cell_under h0)).trans h0
                  have HZ : Hid (lastT (d i) = lz ∧ (d i).bn.toNat = mm) := Lib.hid ⟨hlz, em⟩
                  have hsm : LA.length ≤ 1000000 := by rw [HLA.out]; exact asL_small _ _ _
                  have hnl : decide (lz ∈ LA) = false := by
                    have := last_notin (m := d i)
                    rw [hlz, ← HLA.out] at this; simpa using this
                  have HN := Lib.hid hnl
                  clear x0 x1 x2 x3 y0 y1 y2 y3 y4 hx3 hm3 htt3 hpo3 hb3 hbB hdr hSI hxx HE hOl hpa hb1n hlz hlast0 hnl em
                  obtain ⟨⟨y0, y1, y2, y3, y4⟩, -⟩ := box5 hm4
                  have n0 : (0 : Int) ≤ (O : Int) := by omega
                  have n1 : (O : Int) < (L : Int) := by omega
                  have n2 : (0 : Int) ≤ (mm : Int) - 1 := by omega
                  have n3 : (mm : Int) - 1 < (mm : Int) := by omega
                  have n4 : IntKind.i64.wrap ((mm : Int) - 1) = (mm : Int) - 1 := IntWalk.i64_in _ (by omega)
                  have n5 : ((mm : Int) - 1).toNat = mm - 1 := by omega
                  have n6 : (1 : Int) ≤ (mm : Int) := by omega
                  have n7 : decide (L ≤ O) = false := decide_eq_false (by omega)
                  have n8 : decide ((L : Int) ≤ (O : Int)) = false := decide_eq_false (by omega)
                  have hdr : Below wc.heap.size wc wc.drew := (Below.refl _ _).drew
                  have cH' : ∀ W, Below wc.heap.size wc W → Calls prog 52 #[.slice la LA.length lk, .int .i64 lz] W fun e w' => e = .returned (.bool false) ∧ Below W.heap.size W w' := fun W hW => by
                    have := has_any (x := lz) rfl hsm (owns_below hlo hW)
                    rw [HN.out] at this; exact this
                  go_wp2_with fail
                  go_region_held3 (fun W => W.cell? ⟨gp, O, none⟩ = some (.int .i64 lz) ∧ W.cell? ⟨wr.heap.size, 4, none⟩ = some (.slice (some ⟨b2, o2, none⟩) mm cm) ∧ W.cell? ⟨b2, o2 + (mm - 1), none⟩ = some (.int .i64 lz) ∧ Below wc.heap.size wc W)
                    (go_keep)
                    (first
                      | (go_at_call 52; refine Calls.mono (cH' _ (by assumption)) ?_; rintro e W ⟨rfl, hkk⟩; have hbk := Below.trans (B := wc.heap.size) (a := wc) (by assumption) (Below.mono hkk (Below.size (B := wc.heap.size) (w := wc) (by assumption))); have c1 := (hbk.cell (cell_under hpc)).trans hpc; have c2 := (hbk.cell (cell_under y4)).trans y4; have c3 := (hbk.cell (cell_under hlc)).trans hlc))
                  have hx5 := hx4.below hbk hx4.lt
                  have hm5 := hm4.below hbk hm4.lt
                  have htt5 := htt4.below hbk htt4.lt
                  have hpo5 := owns_below hpo4 hbk
                  have hlo5 := owns_below hlo hbk
                  have hb5 := hb4.trans (hbk.mono hb4.size)
                  have hpcb := (hbk.cell (cell_under hpc)).trans hpc
                  have HR : Hid (∀ j, j < mm → w.cell? ⟨b2, o2 + j, none⟩ = some (.int .i64 ((d i).t ((d i).bo + (j : Int))))) := Lib.hid hrow0
                  have HV : Hid (∀ j : Nat, j < mm → 1 ≤ (d i).t ((d i).bo + j) ∧ (d i).t ((d i).bo + j) ≤ 9) := Lib.hid fun j hj => hv.v.t i hin j (by have := HG.out.2.2.2; omega)
                  clear hx4 hm4 htt4 hpo4 hlo hb4 hbk y0 y1 y2 y3 y4 hpc hlc hrow0 hdr cH' c1 c2 c3 n2 n3 n4 n5 n7 n8
                  obtain ⟨⟨y0, y1, y2, y3, y4⟩, -⟩ := box5 hm5
                  go_wp2_with fail
                  go_loopw [179] (fun z wq => ∃ j : Nat, j ≤ mm ∧ z = .int .i64 j ∧ At wq w.heap.size #[.string s1, .string s2, .bool lx, .slice (some ⟨b, off, none⟩) n c] 24 ∧ At wq wr.heap.size #[.int .i64 g1, .int .i64 g2, .bool true, .string s, .slice (some ⟨b2, o2, none⟩) mm cm] 27 ∧
                    At wq w8.heap.size #[.int .i64 t0, .int .i64 t1, .int .i64 t2, .int .i64 t3, .int .i64 t4, .int .i64 t5, .int .i64 t6, .int .i64 t7, .int .i64 t8] 49 ∧ wq.ownsRow w5.heap.size 3 1 (.slice (some ⟨gp, 0, none⟩) L kp) L (vsOf (putK d n)) ∧ wq.ownsRow 0 3 1 (.slice la LA.length lk) LA.length (vsOf LA) ∧ wq.cell? ⟨gp, O, none⟩ = some (.int .i64 lz) ∧ Below w.heap.size w wq) (fun z _ => mm - (numOf' z).toNat)
                  case atStart => exact ⟨0, Nat.zero_le _, rfl, hx5, hm5, htt5, hpo5, hlo5, hpcb, hb5⟩
                  case round =>
                    as_aux_lemma =>
                      clear hx5 hm5 htt5 hpo5 hlo5 hpcb hb5 y0 y1 y2 y3 y4
                      obtain ⟨wq1, rfl⟩ : ∃ W : World, W = wr := ⟨_, rfl⟩
                      obtain ⟨j, hj, rfl, hx5, hm5, htt5, hpo5, hlo5, hpcb, hb5⟩ := hrel
                      by_cases hjm : j < mm
                      · obtain ⟨fv, hfv⟩ : ∃ fv, (d i).t ((d i).bo + (j : Int)) = fv := ⟨_, rfl⟩
                        have hc0 := HR.out j hjm
                        rw [hfv] at hc0
                        have hcf := (hb5.cell (cell_under hc0)).trans hc0
                        by_cases hfl : fv = lz
                        · subst hfl
                          clear hfv hc0
                          go_wp2
                          go_roundw
                          case rel => exact ⟨j + 1, by omega, by go_num, hx5, hm5, htt5, hpo5, hlo5, hpcb, hb5⟩
                          case measure => simp [numOf'] <;> omega
                        · have hin2 : decide (fv ∈ LA) = true := by
                            have := in_asL (m := d i) (j := j) (by rw [HZ.out.2]; exact hjm) (HV.out j hjm) (by rw [hfv, HZ.out.1]; exact hfl)
                            rw [hfv, ← HLA.out] at this
                            exact decide_eq_true this
                          have cF := has_any (x := fv) rfl hsm hlo5
                          rw [hin2] at cF
                          clear hfv hc0 hin2
                          go_wp2_with fail
                          go_at_call 52
                          refine cF.mono ?_
                          rintro e w30 ⟨rfl, hk30⟩
                          have hx6 := hx5.below hk30 hx5.lt
                          have hm6 := hm5.below hk30 hm5.lt
                          have htt6 := htt5.below hk30 htt5.lt
                          have hpo6 := owns_below hpo5 hk30
                          have hlo6 := owns_below hlo5 hk30
                          have hb6 := hb5.trans (hk30.mono hb5.size)
                          have hp6 := (hk30.cell (cell_under hpcb)).trans hpcb
                          clear hx5 hm5 htt5 hpo5 hlo5 hpcb hb5 hk30
                          go_wp2
                          go_roundw
                          case rel => exact ⟨j + 1, by omega, by go_num, hx6, hm6, htt6, hpo6, hlo6, hp6, hb6⟩
                          case measure => simp [numOf'] <;> omega
                      · go_wp2_with fail
                        go_loopw [198] (fun z wq => ∃ k : Nat, k ≤ LA.length ∧ z = .int .i64 k ∧ At wq w.heap.size #[.string s1, .string s2, .bool lx, .slice (some ⟨b, off, none⟩) n c] 24 ∧ At wq wr.heap.size #[.int .i64 g1, .int .i64 g2, .bool true, .string s, .slice (some ⟨b2, o2, none⟩) mm cm] 27 ∧
                          At wq w8.heap.size #[.int .i64 t0, .int .i64 t1, .int .i64 t2, .int .i64 t3, .int .i64 t4, .int .i64 t5, .int .i64 t6, .int .i64 t7, .int .i64 t8] 49 ∧ wq.ownsRow w5.heap.size 3 1 (.slice (some ⟨gp, 0, none⟩) L kp) L (vsOf (putK d n)) ∧ wq.ownsRow 0 3 1 (.slice la LA.length lk) LA.length (vsOf LA) ∧ Below w.heap.size w wq) (fun z _ => LA.length - (numOf' z).toNat)
                        case atStart => exact ⟨0, Nat.zero_le _, rfl, hx5, hm5, htt5, hpo5, hlo5, hb5⟩
                        case round =>
                          as_aux_lemma =>
                            clear hx5 hm5 htt5 hpo5 hlo5 hpcb hb5
                            obtain ⟨wq', rfl⟩ : ∃ W : World, W = wr := ⟨_, rfl⟩
                            obtain ⟨k, hk, rfl, hx5, hm5, htt5, hpo5, hlo5, hb5⟩ := hrel
                            by_cases hkl : k < LA.length
                            · obtain ⟨ga, hga⟩ : ∃ g, la = some ⟨g, 0, none⟩ := by
                                obtain ⟨a', c', e, hz⟩ := own_form hlo5
                                simp only [Value.slice.injEq, true_and] at e
                                obtain ⟨rfl, rfl⟩ := e
                                rcases hz with h | h
                                · omega
                                · exact h
                              subst hga
                              obtain ⟨av, hav⟩ : ∃ av, LA[k]? = some av := ⟨_, List.getElem?_eq_getElem hkl⟩
                              have hca : wq'.cell? ⟨ga, k, none⟩ = some (.int .i64 av) := by
                                rw [hlo5.cellAt k (by omega), vsOf, List.getElem?_map, hav]; rfl
                              have hin3 : hasB (d i).t (d i).bo av mm = true := by
                                have hmem : av ∈ asL (d i).t (d i).bo (d i).bn.toNat := by rw [← HLA.out]; exact List.mem_of_getElem? hav
                                have := asL_has hmem
                                rw [HZ.out.2] at this; exact this
                              have cF := has_some b2 o2 mm cm (d i).t (d i).bo av wq' (by omega) (fun j hj => (hb5.cell (cell_under (HR.out j hj))).trans (HR.out j hj))
                              rw [hin3] at cF
                              obtain ⟨⟨y0, y1, y2, y3, y4⟩, -⟩ := box5 hm5
                              have fin : ∀ W, Below wq'.heap.size wq' W → At W w.heap.size #[.string s1, .string s2, .bool lx, .slice (some ⟨b, off, none⟩) n c] 24 ∧ At W wr.heap.size #[.int .i64 g1, .int .i64 g2, .bool true, .string s, .slice (some ⟨b2, o2, none⟩) mm cm] 27 ∧
                                At W w8.heap.size #[.int .i64 t0, .int .i64 t1, .int .i64 t2, .int .i64 t3, .int .i64 t4, .int .i64 t5, .int .i64 t6, .int .i64 t7, .int .i64 t8] 49 ∧ W.ownsRow w5.heap.size 3 1 (.slice (some ⟨gp, 0, none⟩) L kp) L (vsOf (putK d n)) ∧ W.ownsRow 0 3 1 (.slice (some ⟨ga, 0, none⟩) LA.length lk) LA.length (vsOf LA) ∧ Below w.heap.size w W := fun W hk30 =>
                                ⟨hx5.below hk30 hx5.lt, hm5.below hk30 hm5.lt, htt5.below hk30 htt5.lt, owns_below hpo5 hk30, owns_below hlo5 hk30, hb5.trans (hk30.mono hb5.size)⟩
                              cases k with
                              | zero =>
                                clear hx5 hm5 htt5 hpo5 hlo5 hb5 hav hin3
                                go_wp2_with fail
                                go_at_call 52
                                refine cF.mono ?_
                                rintro e w31 ⟨rfl, hk31⟩
                                have HF := Lib.hid (fin _ hk31)
                                clear fin
                                go_wp2
                                go_roundw
                                case rel => exact ⟨1, by omega, by go_num, HF.out⟩
                                case measure => simp [numOf'] <;> omega
                              | succ k =>
                                obtain ⟨aw, haw⟩ : ∃ aw, LA[k]? = some aw := ⟨_, List.getElem?_eq_getElem (by omega)⟩
                                have hcb : wq'.cell? ⟨ga, k, none⟩ = some (.int .i64 aw) := by
                                  rw [hlo5.cellAt k (by omega), vsOf, List.getElem?_map, haw]; rfl
                                have hasc : aw < av := by
                                  rw [HLA.out] at haw hav
                                  exact asL_asc haw hav
                                have hnle : decide (av ≤ aw) = false := decide_eq_false (by omega)
                                clear hx5 hm5 htt5 hpo5 hlo5 hb5 hav hin3 haw
                                go_wp2_with fail
                                go_at_call 52
                                refine cF.mono ?_
                                rintro e w31 ⟨rfl, hk31⟩
                                have HF := Lib.hid (fin _ hk31)
                                have hcb' := (hk31.cell (cell_under hcb)).trans hcb
                                clear fin
                                go_wp2
                                go_roundw
                                case rel => exact ⟨k + 2, by omega, by go_num, HF.out⟩
                                case measure => simp [numOf'] <;> omega
                            · have HT : Hid (SumsI d (i + 1) (S + mm) A' R (O + 1)) := Lib.hid (by have := HS.out; rw [← HG.out.2.2.2] at this; exact this)
                              go_wp2
                              go_roundw
                              case rel => exact ⟨i + 1, O + 1, _, _, _, by omega, by go_num, rfl, by go_num, rfl, rfl, HT.out, ⟨by omega, by omega⟩, ⟨by omega, by omega⟩, ⟨by omega, by omega⟩, by omega, hx5, htt5, hpo5, hb5⟩
                              case measure => simp [numOf'] <;> omega
      · obtain rfl : i = n := by omega
        obtain ⟨eS, eO, eA, eR⟩ := hSI
        have eO' : O = L := by rw [eO, HD.out.1]
        have eA' : A' = A := by rw [eA, HD.out.2.1]
        have eR' : R = Rn := by rw [eR, HD.out.2.2.1]
        have hsum : t0 + t1 + t2 + t3 + t4 + t5 + t6 + t7 + t8 = S := by
          have h1 := sumL_outT hv.v i (Nat.le_refl _)
          rw [ht, ← eS] at h1
          simp only [sumL] at h1
          omega
        have rg0 := tch_range hv.v t0 (by rw [ht']; simp)
        have rg1 := tch_range hv.v t1 (by rw [ht']; simp)
        have rg2 := tch_range hv.v t2 (by rw [ht']; simp)
        have rg3 := tch_range hv.v t3 (by rw [ht']; simp)
        have rg4 := tch_range hv.v t4 (by rw [ht']; simp)
        have rg5 := tch_range hv.v t5 (by rw [ht']; simp)
        have rg6 := tch_range hv.v t6 (by rw [ht']; simp)
        have rg7 := tch_range hv.v t7 (by rw [ht']; simp)
        have rg8 := tch_range hv.v t8 (by rw [ht']; simp)
        have ix0 : ∀ w, (Instr.index 49 (.agg #[.int .i64 t0, .int .i64 t1, .int .i64 t2, .int .i64 t3, .int .i64 t4, .int .i64 t5, .int .i64 t6, .int .i64 t7, .int .i64 t8]) (.int .i64 0)).run prog w = .ok (.int .i64 t0) w := fun _ => by kernel_rfl
        have ix1 : ∀ w, (Instr.index 49 (.agg #[.int .i64 t0, .int .i64 t1, .int .i64 t2, .int .i64 t3, .int .i64 t4, .int .i64 t5, .int .i64 t6, .int .i64 t7, .int .i64 t8]) (.int .i64 1)).run prog w = .ok (.int .i64 t1) w := fun _ => by kernel_rfl
        have ix2 : ∀ w, (Instr.index 49 (.agg #[.int .i64 t0, .int .i64 t1, .int .i64 t2, .int .i64 t3, .int .i64 t4, .int .i64 t5, .int .i64 t6, .int .i64 t7, .int .i64 t8]) (.int .i64 2)).run prog w = .ok (.int .i64 t2) w := fun _ => by kernel_rfl
        have ix3 : ∀ w, (Instr.index 49 (.agg #[.int .i64 t0, .int .i64 t1, .int .i64 t2, .int .i64 t3, .int .i64 t4, .int .i64 t5, .int .i64 t6, .int .i64 t7, .int .i64 t8]) (.int .i64 3)).run prog w = .ok (.int .i64 t3) w := fun _ => by kernel_rfl
        have ix4 : ∀ w, (Instr.index 49 (.agg #[.int .i64 t0, .int .i64 t1, .int .i64 t2, .int .i64 t3, .int .i64 t4, .int .i64 t5, .int .i64 t6, .int .i64 t7, .int .i64 t8]) (.int .i64 4)).run prog w = .ok (.int .i64 t4) w := fun _ => by kernel_rfl
        have ix5 : ∀ w, (Instr.index 49 (.agg #[.int .i64 t0, .int .i64 t1, .int .i64 t2, .int .i64 t3, .int .i64 t4, .int .i64 t5, .int .i64 t6, .int .i64 t7, .int .i64 t8]) (.int .i64 5)).run prog w = .ok (.int .i64 t5) w := fun _ => by kernel_rfl
        have ix6 : ∀ w, (Instr.index 49 (.agg #[.int .i64 t0, .int .i64 t1, .int .i64 t2, .int .i64 t3, .int .i64 t4, .int .i64 t5, .int .i64 t6, .int .i64 t7, .int .i64 t8]) (.int .i64 6)).run prog w = .ok (.int .i64 t6) w := fun _ => by kernel_rfl
        have ix7 : ∀ w, (Instr.index 49 (.agg #[.int .i64 t0, .int .i64 t1, .int .i64 t2, .int .i64 t3, .int .i64 t4, .int .i64 t5, .int .i64 t6, .int .i64 t7, .int .i64 t8]) (.int .i64 7)).run prog w = .ok (.int .i64 t7) w := fun _ => by kernel_rfl
        have ix8 : ∀ w, (Instr.index 49 (.agg #[.int .i64 t0, .int .i64 t1, .int .i64 t2, .int .i64 t3, .int .i64 t4, .int .i64 t5, .int .i64 t6, .int .i64 t7, .int .i64 t8]) (.int .i64 8)).run prog w = .ok (.int .i64 t8) w := fun _ => by kernel_rfl
        subst eO' eA' eR'
        clear eS eO eA eR ht ht' HD
        obtain ⟨⟨i0, i1, i2, i3, i4, i5, i6, i7, i8⟩, -⟩ := box9 htt
        go_wp2
        refine wp_loop_rounds 10 ?_
        rw [rounds_succ]
        go_wp2
        rw [rounds_succ]
        go_wp2
        rw [rounds_succ]
        go_wp2
        rw [rounds_succ]
        go_wp2
        rw [rounds_succ]
        go_wp2
        rw [rounds_succ]
        go_wp2
        rw [rounds_succ]
        go_wp2
        rw [rounds_succ]
        go_wp2
        rw [rounds_succ]
        go_wp2
        rw [rounds_succ]
        go_wp2
        go_ret
        exact ⟨rfl, hb⟩
end

theorem sums_law {w : World} {y0 y1 : Int → Int} {yo yn eo en lx : Int} {d : Nat → MvD} {n : Nat} {pvv ev mv : Value} (hL : Laid w) (hp : IsStr pvv y0 yo yn) (he : IsStr ev y1 eo en) (hm : IsMoves w mv d n) (hbn : ∀ i, i < n → 0 ≤ (d i).bn) :
    Calls prog 8 #[.agg #[pvv, ev, .bool (decide (lx ≠ 0)), mv]] w fun e w' => e = .returned (.bool true) ∧ Below w.heap.size w w' := by
  have hp' := hp
  have he' := he
  obtain ⟨l1, rfl, -, -⟩ := hp
  obtain ⟨l2, rfl, -, -⟩ := he
  have hm' := hm
  obtain ⟨ad0, c, rfl, -, -⟩ := hm
  by_cases h : plV y0 yo yn y1 eo en d n = 0
  · exact sums_go hL hm' (fun W mv hb h2 => by have := chk_of (lx := lx) (hL.below hb) hp' he' h2; rw [h] at this; exact this) (fun W hb => by have := chkR_w (lx := lx) (hL.below hb) hp' he' (hm'.below hb); rw [h] at this; exact this) (valP_of h hbn)
  · exact sums_no hL h (fun W hb => chkR_w (hL.below hb) hp' he' (hm'.below hb))
end Go.Proofs.Tryz

namespace Go.Proofs.Tryz
open Go Go.Am Go.ChangeShapes Go.WideShapes Go.ChangeAt Go.RowKit
open YthlmjjdlmidnlaaGreatDoor
set_option maxRecDepth 100000

theorem sums_lifted (os : Os) (started : os.Started) (H : Type) (enc : TypeId × Value → H) :
    ReturnsInHanded {} checked os 8 .any (fun w args => (Rows.playSumsSpec.pre enc prog f8 [] false w args ∧ laidMetH prog Rows.playSumsRow.laid w) ∧ sizedMet enc prog f8 (OpenSpec.ofChange Rows.playSumsSpec) false w args)
      (Rows.playSumsSpec.post enc prog f8 false true false false) := by
  refine returnsInHanded_of_change_and (C := checked) (X := fun w _ => laidMetH prog Rows.playSumsRow.laid w) (fun _ _ _ hh h => h.of_heap hh) own started (by kernel_rfl) func8
    (ChangeSpec.witness_shaped (enc := enc) (C := checked) (os := os) (X := fun w _ => laidMetH prog Rows.playSumsRow.laid w) false (World.laidAll prog os Rows.playSumsRow.laid) #[.agg #[.string ⟨#[]⟩, .string ⟨#[]⟩, .bool false, .slice none 0 0]] 8 (World.laidAll_os _ _ _) (laid_shaped os) (by kernel_rfl) (by kernel_rfl) (by kernel_rfl) (laid_met os _)) ?_
  intro W base args ds gs before hval0 hW _ _ hL _
  have hval : ∀ (j : Nat) t v, f8.params[j]? = some t → args[j]? = some v → Value.okWide prog W .any base t v := hval0
  have hW' := hW
  obtain ⟨p, q, hA0, hV, rfl, hfz, hnd⟩ := hW
  have hA : DataW.TrodAll enc prog W 0 (fun _ => true) true f8.params.toList args.toList ds p := hA0
  rw [params8] at hA hval
  obtain ⟨v0, e0, rfl, rfl, h0⟩ := trodAll_one hA
  obtain ⟨rfl, rfl⟩ := trodVars_none hV
  have hlaid := of_laid hL
  obtain ⟨y00, y10, yn0, en0, lx0, d0, n0, pv0, ev0, mv0, rfl, a0, b0, c0⟩ := play_arg (hval 0 24 v0 rfl rfl) h0
  have hrun : Calls prog 8 #[.agg #[pv0, ev0, .bool (decide (lx0 ≠ 0)), mv0]] W fun e w' => e = .returned (.bool true) ∧ Below W.heap.size W w' := sums_law hlaid a0 b0 c0 (moves_bn c0)
  refine hrun.mono fun e W' ⟨he, hB⟩ => ?_
  subst he
  have hlt : ∀ x ∈ p, x.block < W.heap.size := fun x hx => by
    have := hW'.lt x (by simpa using hx)
    exact this
  refine ⟨_, rfl, _, _, _, [], p, [], hW', trodAll_mk1 (shut_bool underlying4 true), ?_, rfl, hB.frame _, fun h => by cases h⟩
  exact trodAll_mk1 (Below.trod laidOut (by kernel_rfl) (of_decide_eq_true (by kernel_rfl)) h0 hB fun x hx => hlt x hx)

theorem f8_named : checked.prog.funcNamed Rows.playSumsRow.func = some 8 := by kernel_rfl
theorem f8_facts : joinedFacts checked.prog 8 f8 Rows.playSumsSpec Rows.playSumsRow = true := by kernel_rfl
theorem f8_inst : f8.isInstance checked.prog Rows.playSumsRow.origin Rows.playSumsRow.targs := of_decide_eq_true (by kernel_rfl)
theorem f8_wrap : f8.isWrapper checked.prog Rows.playSumsRow.wrapper Rows.playSumsRow.mainSum := by
  unfold Func.isWrapper; first | (rw [if_pos (by decide +kernel)]; kernel_rfl) | (rw [if_neg (by decide +kernel)]; exact ⟨rfl, rfl⟩)

theorem sums_holds : Rows.PlaySumsSaid :=
  OpenClaim.holds_of_wide 8 f8 rfl rfl rfl rfl rfl rfl rfl ⟨rfl, rfl, rfl, rfl, rfl⟩ rfl rfl rfl rfl rfl f8_named func8 f8_facts f8_inst f8_wrap
    (fun os started H enc _ => sums_lifted os started H enc)
end Go.Proofs.Tryz
