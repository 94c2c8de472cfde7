/- PlayLoose: the road on which the law is asked. PlayLoose, of whatever arguments. On the seat of the open Play statements: the row of PlayLoose, proved. -/
import Derived.Test.YthlmjjdlmidnlaaGreatDoorAsAe
import Derived.Deep.CutBlock
import Derived.Test.YthlmjjdlmidnlaaGreatDoorArO
namespace Go.Proofs.Tryz
open Go Go.Am Go.RowKit Go.Dr
set_option maxRecDepth 100000

theorem dup_step {t : Int → Int} {o : Int} {m j : Nat} (h : j < m) : dupL ((intsL t o m).take (j + 1)) = dupL ((intsL t o m).take j) ++ [t (o + (j : Int)), t (o + (j : Int))] := by
  rw [List.take_add_one, intsL_get h]
  exact dupL_append _ _
theorem dup_len {t : Int → Int} {o : Int} {m j : Nat} (h : j ≤ m) : (dupL ((intsL t o m).take j)).length = 2 * j := by
  rw [length_dupL, List.length_take, length_intsL, Nat.min_eq_left h]

theorem cellsAt_eq {w w' : World} {b : Nat} (h : w'.heap[b]? = w.heap[b]?) : ∀ n off, cellsAt w' b off n = cellsAt w b off n
  | 0, _ => rfl
  | n + 1, off => by
    rw [cellsAt, cellsAt, cellsAt_eq h n]
    have e : w'.cell? ⟨b, off, none⟩ = w.cell? ⟨b, off, none⟩ := by unfold World.cell?; rw [h]
    rw [e]
theorem IsMoves.but2 {W W' : World} {g n : Nat} {v : Value} {d : Nat → MvD} (h : IsMoves W v d n) (hk : ∀ k, k < W.heap.size → k ≠ g → W'.heap[k]? = W.heap[k]?) (hg : ∀ j z, W.cell? ⟨g, j, none⟩ ≠ some (.int .i64 z)) : IsMoves W' v d n := by
  obtain ⟨a, c, rfl, h1, h2⟩ := h
  refine ⟨a, c, rfl, h1, fun q => ?_⟩
  obtain ⟨b, off, rfl, h3⟩ := h2 q
  refine ⟨b, off, rfl, fun i hi => ?_⟩
  obtain ⟨sv, bv, e, hs, hb⟩ := h3 i hi
  have e0 : W.cell? ⟨b, off + 5 * i, none⟩ = some (vi (d i).fr) := by
    have := congrArg List.head? e
    simpa [cellsAt] using this
  have hne : b ≠ g := fun q => by subst q; exact hg _ _ e0
  have hbe := hk b (cell_under e0) hne
  exact ⟨sv, bv, by rw [cellsAt_eq hbe]; exact e, hs, hb.but hk hg⟩
/-- What lies behind the law's own loops. -/
def Aft (w w15 : World) (bl : Nat) (s1 s2 : ByteArray) (lx : Bool) (LL : List MvD → Prop) (wx : World) : Prop :=
  Below w.heap.size w wx ∧ w15.heap.size ≤ wx.heap.size ∧ (∀ q, q < w15.heap.size → q ≠ bl → wx.heap[q]? = w15.heap[q]?) ∧
  ∃ l v, LL l ∧ LsR wx w15.heap.size l v ∧ At wx bl #[.string s1, .string s2, .bool lx, v] 24
theorem stay_own (w : World) (base f : Nat) : M5Own w base ⟨(f : Int), (f : Int), false, ⟨#[116]⟩, none, 0, 0⟩ (stayM f) :=
  ⟨rfl, rfl, rfl, ⟨[116], rfl, rfl, fun j b h => by
    match j, h with
    | 0, h => cases h; rfl⟩, World.ownsRow_nil _ _ _ _, Int.le_refl _⟩

section
variable {w : World} {y0 y1 : Int → Int} {yo yn eo en : Int} {lx : Bool} {d : Nat → MvD} {n : Nat} {s1 s2 : ByteArray} {ad : Option Addr} {c : Nat}
variable {u0 u1 : Int → Int} {uo un fo fn : Int} {zx : Bool} {d' : Nat → MvD} {n' : Nat} {z1 z2 : ByteArray} {ad' : Option Addr} {c' : Nat} {key : Int}
set_option maxHeartbeats 64000000 in
theorem loose_go (hL : Laid w) (hp : IsStr (.string s1) y0 yo yn) (he : IsStr (.string s2) y1 eo en) (hm : IsMoves w (.slice ad n c) d n) (h : plV y0 yo yn y1 eo en d n = 0)
    (hp' : IsStr (.string z1) u0 uo un) (he' : IsStr (.string z2) u1 fo fn) (hm' : IsMoves w (.slice ad' n' c') d' n') (h' : plV u0 uo un u1 fo fn d' n' = 0) (hk : drwV key n = 0)
    (hF : FullP y0 yo yn y1 eo en d n) (hF' : FullP u0 uo un u1 fo fn d' n') :
    Calls prog 10 #[.agg #[.string s1, .string s2, .bool lx, .slice ad n c], .agg #[.string z1, .string z2, .bool zx, .slice ad' n' c'], .int .i64 key] w fun e w' => e = .returned (.bool true) ∧ Below w.heap.size w w' := by
  have hB : Below w.heap.size w ((w.alloc (.cells #[.string s1, .string s2, .bool lx, .slice ad n c] 24)).alloc (.cells #[.string z1, .string z2, .bool zx, .slice ad' n' c'] 24)) := ((Below.refl _ _).alloc (Nat.le_refl _) _).alloc (by simp) _
  have cA := awake_w (hL.below hB)
  have hn4 : n ≤ 4 := hF.v.v.n4
  have hb9 : ∀ i, i < n → 0 ≤ (d i).bn ∧ (d i).bn ≤ 9 := fun i hi => hF.v.v.bn i hi
  obtain ⟨L, hLe⟩ : ∃ L, canL d n = L := ⟨_, rfl⟩
  have hLn : L.length = n := by rw [← hLe]; exact canL_len hF
  obtain ⟨tx, htx⟩ : ∃ tx, lateC lx L = tx := ⟨_, rfl⟩
  have hLb : ∀ i, i < n → 0 ≤ (dOf L i).bn ∧ (dOf L i).bn ≤ 9 := by rw [← hLe]; exact canL_bn hF
  have hLp : plV y0 yo yn y1 eo en (dOf L) n = 0 := by rw [← hLe]; exact canL_plV h hF
  have hFL : FullP y0 yo yn y1 eo en (dOf L) n := by rw [← hLe]; exact canL_full h hF
  obtain ⟨P2, hP2⟩ : ∃ P, canP s1 s2 tx y0 yo yn y1 eo en (dOf L) n = P := ⟨_, rfl⟩
  have hag : sameP ⟨s1, s2, tx, L⟩ P2 = true := by rw [← hP2, ← htx, ← hLe]; exact again_same s1 s2 lx h hF
  have hE : canE y0 yo yn y1 eo en d n = 0 := canE_valid h hF
  have hE2 : canE y0 yo yn y1 eo en (dOf L) n = 0 := canE_valid hLp hFL
  have hPv : canP s1 s2 lx y0 yo yn y1 eo en d n = ⟨s1, s2, tx, L⟩ := by rw [canP_valid s1 s2 lx h hF, hLe, htx]
  have cS : ∀ W, Below w.heap.size w W → Calls prog 17 #[.agg #[.string s1, .string s2, .bool lx, .slice ad n c]] W fun e w' => e = .returned (.int .i64 0) ∧ Below W.heap.size W w' := fun W hW => by rw [← h]; exact chkR_b lx (hL.below hW) hp he (hm.below hW)
  have cT : ∀ W, Below w.heap.size w W → Calls prog 17 #[.agg #[.string z1, .string z2, .bool zx, .slice ad' n' c']] W fun e w' => e = .returned (.int .i64 0) ∧ Below W.heap.size W w' := fun W hW => by rw [← h']; exact chkR_b zx (hL.below hW) hp' he' (hm'.below hW)
  have cD : ∀ W, Calls prog 39 #[.int .i64 key, .int .i64 n] W fun e w' => e = .returned (.int .i64 0) ∧ Below W.heap.size W w' := fun W => by rw [← hk]; exact checkDraw_w key n W
  have hkr := drwV_zero hk
  have cR : ∀ W, Calls prog 40 #[.int .i64 key, .int .i64 n] W fun e w' => ∃ v, e = .returned v ∧ w'.ownsRow W.heap.size 3 1 v n (vsOf (drawL key n)) ∧ Below W.heap.size W w' := fun W => drawR_w key n W hkr.1 hkr.2.1 (by omega)
  have HK : Hid (0 ≤ key) := Lib.hid (by omega)
  have cP : ∀ W, Below w.heap.size w W → Calls prog 16 #[.agg #[.string s1, .string s2, .bool lx, .slice ad n c]] W fun e w' => ∃ a k, e = .returned (.agg #[.string s1, .string s2, .bool lx, .slice a n k]) ∧ IsMoves w' (.slice a n k) d n ∧ Below W.heap.size W w' := fun W hW => by
    refine (copied_w (s1 := s1) (s2 := s2) (lx := lx) (hm.below hW) (by omega) (fun i hi => by have := hb9 i hi; omega)).mono ?_
    rintro e w' ⟨v, rfl, hm', hB⟩
    have hm2 := hm'
    obtain ⟨a, k, rfl, -, -⟩ := hm'
    exact ⟨a, k, rfl, hm2, hB⟩
  have cC : ∀ W a k, IsMoves W (.slice a n k) (dOf L) n → Calls prog 16 #[.agg #[.string s1, .string s2, .bool tx, .slice a n k]] W fun e w' => ∃ a k, e = .returned (.agg #[.string s1, .string s2, .bool tx, .slice a n k]) ∧ IsMoves w' (.slice a n k) (dOf L) n ∧ Below W.heap.size W w' := fun W a k hW => by
    refine (copied_w (s1 := s1) (s2 := s2) (lx := tx) hW (by omega) (fun i hi => by have := hLb i hi; omega)).mono ?_
    rintro e w' ⟨v, rfl, hm', hB⟩
    have hm2 := hm'
    obtain ⟨a, k, rfl, -, -⟩ := hm'
    exact ⟨a, k, rfl, hm2, hB⟩
  have cN : ∀ W a k, Below w.heap.size w W → IsMoves W (.slice a n k) d n → Calls prog 53 #[.agg #[.string s1, .string s2, .bool lx, .slice a n k]] W fun e w' => PlAns w' e 0 ⟨s1, s2, tx, L⟩ ∧ Below W.heap.size W w' := fun W a k hW hmW =>
    canon_w fun W' hW' => by
      have := can_w (lx := lx) (hL.below (hW.trans (hW'.mono hW.size))) hp he (hmW.below hW') (by omega) (fun i hi => by have := hb9 i hi; omega)
      rw [hE, hPv] at this
      exact this
  have cM : ∀ W a k, Below w.heap.size w W → IsMoves W (.slice a n k) (dOf L) n → Calls prog 53 #[.agg #[.string s1, .string s2, .bool tx, .slice a n k]] W fun e w' => PlAns w' e 0 P2 ∧ Below W.heap.size W w' := fun W a k hW hmW =>
    canon_w fun W' hW' => by
      have := can_w (lx := tx) (hL.below (hW.trans (hW'.mono hW.size))) hp he (hmW.below hW') (by omega) (fun i hi => by have := hLb i hi; omega)
      rw [hE2, hP2] at this
      exact this
  have cK : ∀ W a k, Below w.heap.size w W → IsMoves W (.slice a n k) (dOf L) n → Calls prog 17 #[.agg #[.string s1, .string s2, .bool tx, .slice a n k]] W fun e w' => e = .returned (.int .i64 0) ∧ Below W.heap.size W w' := fun W a k hW hmW => by rw [← hLp]; exact chkR_b tx (hL.below hW) hp he hmW
  have cV : ∀ W a k a' k', IsMoves W (.slice a n k) (dOf L) n → IsMoves W (.slice a' n k') d n → Calls prog 25 #[.agg #[.string s1, .string s2, .bool false, .slice a n k], .agg #[.string s1, .string s2, .bool false, .slice a' n k']] W fun e w' => e = .returned (.bool true) ∧ Below W.heap.size W w' := fun W a k a' k' q1 q2 => by
    have hs := canL_same hF
    rw [hLe, hLn] at hs
    have := samePlay_w (s1 := s1) (s2 := s2) (z1 := s1) (z2 := s2) (lx := false) (zx := false) q1 q2 (by omega) (fun i hi => by have := hLb i hi; omega)
    rw [hs] at this
    simpa using this
  have cW : ∀ W a k a' k', IsMoves W (.slice a n k) (dOf L) n → IsMoves W (.slice a' P2.L.length k') (dOf P2.L) P2.L.length → Calls prog 25 #[.agg #[.string s1, .string s2, .bool tx, .slice a n k], .agg #[.string P2.s1, .string P2.s2, .bool P2.lx, .slice a' P2.L.length k']] W fun e w' => e = .returned (.bool true) ∧ Below W.heap.size W w' := fun W a k a' k' q1 q2 => by
    have := samePlay_w (s1 := s1) (s2 := s2) (z1 := P2.s1) (z2 := P2.s2) (lx := tx) (zx := P2.lx) q1 q2 (by omega) (fun i hi => by have := hLb i hi; omega)
    have e : ((s1.toList == P2.s1.toList) && (s2.toList == P2.s2.toList) && (tx == P2.lx) && sameN (dOf L) n (dOf P2.L) P2.L.length) = true := by
      have := hag
      unfold sameP at this
      dsimp only at this
      rw [hLn] at this
      exact this
    rw [e] at this
    exact this
  have HH : Hid (L = canL d n ∧ tx = lateC lx (canL d n) ∧ L.length = n) := Lib.hid ⟨hLe.symm, by rw [hLe, htx], hLn⟩
  have HX : Hid (L.length = n) := Lib.hid hLn
  have hkp : 0 ≤ key := by omega
  have HTn : Hid (∃ tz sm Lo S1 S2 ra rb, TailC w s1 s2 z1 z2 lx zx tx tz sm ad ad' n c n' c' d d' L Lo (drawN key n) S1 S2 ra rb) := Lib.hid (by
    have := tail_of (lx := lx) (zx := zx) hL hp he hm h hp' he' hm' h' hkp hF hF'
    rw [hLe, htx] at this
    exact this)
  obtain ⟨tz, sm, Lo, S1, S2, ra, rb, HT⟩ := HTn.out
  clear HTn hkp
  clear hkr hag hPv hE hE2 hP2 hLe htx hLn hLp hLb h h' hk hFL hF'
  obtain ⟨r1, r2, rx, M⟩ := P2
  dsimp only at cM cW
  go_enter func10, ntmps10
  go_wp2_with fail
  go_at_call 13
  refine cA.mono ?_
  rintro e w1 ⟨rfl, hk1⟩
  have hb1 : Below w.heap.size w w1 := hB.trans (hk1.mono (by rw [size2]; omega))
  have hx1 := (at2_0 _ _ _ _ _).below hk1 (by rw [size2]; omega)
  have hy1 := (at2_1 _ _ _ _ _).below hk1 (by rw [size2]; omega)
  obtain ⟨⟨x0, x1, x2, x3⟩, -⟩ := box4 hx1
  have cS := cS _ hb1
  clear cA hB hk1
  go_wp2_with fail
  go_at_call 17
  refine cS.mono ?_
  rintro e w2 ⟨rfl, hk2⟩
  have hb2 : Below w.heap.size w w2 := hb1.trans (hk2.mono hb1.size)
  have hx2 := hx1.below hk2 hx1.lt
  have hy2 := hy1.below hk2 hy1.lt
  clear x0 x1 x2 x3 hx1 hy1 hk2 hb1 cS
  obtain ⟨⟨y0', y1', y2', y3'⟩, -⟩ := box4 hy2
  have cT := cT _ hb2
  go_wp2_with fail
  go_at_call 17
  refine cT.mono ?_
  rintro e w3 ⟨rfl, hk3⟩
  have hb3 : Below w.heap.size w w3 := hb2.trans (hk3.mono hb2.size)
  have hx3 := hx2.below hk3 hx2.lt
  have hy3 := hy2.below hk3 hy2.lt
  clear y0' y1' y2' y3' hx2 hy2 hk3 hb2 cT
  obtain ⟨⟨x0, x1, x2, x3⟩, -⟩ := box4 hx3
  go_wp2_with fail
  go_at_call 39
  refine (cD _).mono ?_
  rintro e w4 ⟨rfl, hk4⟩
  have hb4 : Below w.heap.size w w4 := hb3.trans (hk4.mono hb3.size)
  have hx4 := hx3.below hk4 hx3.lt
  have hy4 := hy3.below hk4 hy3.lt
  clear x0 x1 x2 x3 hx3 hy3 hk4 hb3 cD
  obtain ⟨⟨x0, x1, x2, x3⟩, -⟩ := box4 hx4
  go_wp2_with fail
  go_at_call 16
  refine (cP _ hb4).mono ?_
  rintro e w5 ⟨a5, k5, rfl, hm5, hk5⟩
  have hb5 : Below w.heap.size w w5 := hb4.trans (hk5.mono hb4.size)
  have hx5 := hx4.below hk5 hx4.lt
  have hy5 := hy4.below hk5 hy4.lt
  clear x0 x1 x2 x3 hx4 hy4 hk5 hb4
  have cN5 := cN _ _ _ hb5 hm5
  go_wp2_with fail
  go_at_call 53
  refine cN5.mono ?_
  rintro e w6 ⟨⟨mv6, rfl, hm6⟩, hk6⟩
  dsimp only at hm6 ⊢
  rw [HX.out] at hm6
  have hm6' := hm6
  obtain ⟨a6, k6, rfl, -, -⟩ := hm6'
  have hb6 : Below w.heap.size w w6 := hb5.trans (hk6.mono hb5.size)
  have hx6 := (hx5.below hk6 hx5.lt).alloc (.cells #[.string s1, .string s2, .bool tx, .slice a6 n k6] 24)
  have hy6 := (hy5.below hk6 hy5.lt).alloc (.cells #[.string s1, .string s2, .bool tx, .slice a6 n k6] 24)
  have hc6 := at_new w6 #[.string s1, .string s2, .bool tx, .slice a6 n k6] 24
  have hb7 := hb6.alloc hb6.size (.cells #[.string s1, .string s2, .bool tx, .slice a6 n k6] 24)
  have hm7 := hm6.below ((Below.refl w6.heap.size w6).alloc (Nat.le_refl _) (.cells #[.string s1, .string s2, .bool tx, .slice a6 n k6] 24))
  obtain ⟨⟨x0, x1, x2, x3⟩, -⟩ := box4 hc6
  clear cN5 hx5 hy5 hk6 hb5 hm5 hb6 hm6
  go_wp2_with fail
  go_at_call 16
  refine (cC _ _ _ hm7).mono ?_
  rintro e w8 ⟨a8, k8, rfl, hm8, hk8⟩
  have hb8 := hb7.trans (hk8.mono hb7.size)
  have hx8 := hx6.below hk8 hx6.lt
  have hy8 := hy6.below hk8 hy6.lt
  have hc8 := hc6.below hk8 hc6.lt
  have hmc8 := hm7.below hk8
  have cM8 := cM _ _ _ hb8 hm8
  clear x0 x1 x2 x3 hx6 hy6 hc6 hk8 hb7 hm7 hm8 cM
  go_wp2_with fail
  go_at_call 53
  refine cM8.mono ?_
  rintro e w9 ⟨⟨mv9, rfl, hm9⟩, hk9⟩
  dsimp only at hm9 ⊢
  have hm9' := hm9
  obtain ⟨a9, k9, rfl, -, -⟩ := hm9'
  have hb9' : Below w.heap.size w w9 := hb8.trans (hk9.mono hb8.size)
  have hal := (Below.refl w9.heap.size w9).alloc (Nat.le_refl _) (.cells #[.string r1, .string r2, .bool rx, .slice a9 M.length k9] 24)
  have hx9 := (hx8.below hk9 hx8.lt).below hal (hx8.below hk9 hx8.lt).lt
  have hy9 := (hy8.below hk9 hy8.lt).below hal (hy8.below hk9 hy8.lt).lt
  have hc9 := (hc8.below hk9 hc8.lt).below hal (hc8.below hk9 hc8.lt).lt
  have hd9 := at_new w9 #[.string r1, .string r2, .bool rx, .slice a9 M.length k9] 24
  have hb10 := hb9'.trans (hal.mono hb9'.size)
  have hmc9 := (hmc8.below hk9).below hal
  have hmd9 := hm9.below hal
  obtain ⟨⟨x0, x1, x2, x3⟩, -⟩ := box4 hc9
  obtain ⟨⟨y0', y1', y2', y3'⟩, -⟩ := box4 hd9
  have cW9 := cW _ _ _ _ _ hmc9 hmd9
  clear cM8 hx8 hy8 hc8 hk9 hb8 hm9 hb9' hmc8 hal
  go_wp2_with fail
  go_at_call 25
  refine cW9.mono ?_
  rintro e w11 ⟨rfl, hk11⟩
  have hx11 := hx9.below hk11 hx9.lt
  have hy11 := hy9.below hk11 hy9.lt
  have hc11 := hc9.below hk11 hc9.lt
  have hb11 := hb10.trans (hk11.mono hb10.size)
  have hmc11 := hmc9.below hk11
  clear x0 x1 x2 x3 y0' y1' y2' y3' hx9 hy9 hc9 hd9 hb10 hmc9 hmd9 hk11 cW9 cW
  obtain ⟨⟨x0, x1, x2, x3⟩, -⟩ := box4 hc11
  have cK11 := cK _ _ _ hb11 hmc11
  go_wp2_with fail
  go_at_call 17
  refine cK11.mono ?_
  rintro e w12 ⟨rfl, hk12⟩
  have hx12 := hx11.below hk12 hx11.lt
  have hy12 := hy11.below hk12 hy11.lt
  have hc12 := hc11.below hk12 hc11.lt
  have hb12 := hb11.trans (hk12.mono hb11.size)
  have hmc12 := hmc11.below hk12
  clear x0 x1 x2 x3 hx11 hy11 hc11 hb11 hmc11 hk12 cK11 cK
  obtain ⟨⟨x0, x1, x2, x3⟩, -⟩ := box4 hc12
  obtain ⟨⟨y0', y1', y2', y3'⟩, -⟩ := box4 hx12
  have cV12 := cV _ _ _ _ _ hmc12 (hm.below hb12)
  go_wp2_with fail
  go_at_call 25
  refine cV12.mono ?_
  rintro e w13 ⟨rfl, hk13⟩
  have hx13 := hx12.below hk13 hx12.lt
  have hy13 := hy12.below hk13 hy12.lt
  have hc13 := hc12.below hk13 hc12.lt
  have hb13 := hb12.trans (hk13.mono hb12.size)
  have hmc13 := hmc12.below hk13
  clear x0 x1 x2 x3 y0' y1' y2' y3' hx12 hy12 hc12 hb12 hmc12 hk13 cV12 cV
  obtain ⟨⟨x0, x1, x2, x3⟩, -⟩ := box4 hx13
  have hal := (Below.refl w13.heap.size w13).alloc (Nat.le_refl _) (.cells #[.string s1, .string s2, .bool lx, .slice none 0 0] 24)
  have hx14 := hx13.below hal hx13.lt
  have hy14 := hy13.below hal hy13.lt
  have hc14 := hc13.below hal hc13.lt
  have hl14 := at_new w13 #[.string s1, .string s2, .bool lx, .slice none 0 0] 24
  have hb14 := hb13.trans (hal.mono hb13.size)
  have hmc14 := hmc13.below hal
  obtain ⟨⟨-, -, -, y3'⟩, -⟩ := box4 hx14
  clear hal
  go_wp2_with fail
  go_at_call 40
  refine (cR _).mono ?_
  rintro e w15 ⟨v15, rfl, ho15, hk15⟩
  have hb15 := hb14.trans (hk15.mono hb14.size)
  have hx15 := hx14.below hk15 hx14.lt
  have hy15 := hy14.below hk15 hy14.lt
  have hc15 := hc14.below hk15 hc14.lt
  have hl15 := hl14.below hk15 hl14.lt
  have hmc15 := hmc14.below hk15
  obtain ⟨a15, k15, c15, rfl⟩ := owns_slice ho15
  have hk15e : k15 = n := by
    rcases ho15.2 with ⟨e, hj0⟩ | ⟨g, cap, cur, e, _⟩
    · simp only [Value.slice.injEq] at e; omega
    · simp only [Value.slice.injEq] at e; exact e.2.1
  subst hk15e
  have hy13' := hy13.lt
  have hc13' := hc13.lt
  clear x0 x1 x2 x3 y3' hx13 hy13 hc13 hl14 hb13 hmc13 hx14 hy14 hc14 hb14 hmc14 hk15 cR
  have HG : Hid (k15 ≠ 0 → ∃ g, a15 = some ⟨g, 0, none⟩ ∧ g ≠ w13.heap.size ∧ g < w15.heap.size ∧ ∀ j u, (vsOf (drawL key k15))[j]? = some u → w15.cell? ⟨g, j, none⟩ = some u) := Lib.hid fun h0 => by
    have hl := ho15.lt
    rcases ho15.2 with ⟨e, hj0⟩ | ⟨g, cap, cur, e, _⟩
    · exact absurd hj0 h0
    · simp only [Value.slice.injEq] at e
      obtain ⟨rfl, _, rfl⟩ := e
      have hlg := hl g rfl
      simp at hlg
      refine ⟨g, rfl, by omega, by omega, fun j u hj => ?_⟩
      have hjl : j < k15 := by
        have := (List.getElem?_eq_some_iff.1 hj).1
        simp [vsOf, length_drawL] at this
        exact this
      rw [ho15.cellAt j (by simpa using hjl), hj]
  have hs15 : w13.heap.size < w15.heap.size := hl15.lt
  obtain ⟨B7, hB7⟩ : ∃ B7, w13.heap.size = B7 := ⟨_, rfl⟩
  rw [hB7] at hl15 hs15 HG ⊢
  have lB : w.heap.size + 1 < B7 := by have := hy13'; omega
  obtain ⟨i3, hi3, hz30, hz31, hz32⟩ := info_parts info3
  have hls := LsR.start w15 w15.heap.size
  have hc6B : w6.heap.size ≠ B7 := by omega
  clear hB7 ho15 hc13'
  go_upto_block 0 with fail
  go_cut [] from 13 (fun wx => Aft w w15 B7 s1 s2 lx (fun l => l = (drawN key k15).map fun k => dblM (d k)) wx)
  case first =>
      go_wp2_with fail
      go_loopw [116] (fun s wr => ∃ (i : Nat) (v : Value), i ≤ k15 ∧ s = .int .i64 i ∧ LsR wr w15.heap.size (((drawN key k15).take i).map fun k => dblM (d k)) v ∧ At wr B7 #[.string s1, .string s2, .bool lx, v] 24 ∧ Below w.heap.size w wr ∧ w15.heap.size ≤ wr.heap.size ∧ ∀ q, q < w15.heap.size → q ≠ B7 → wr.heap[q]? = w15.heap[q]?) (fun s _ => k15 - (numOf' s).toNat)
      case atStart => exact ⟨0, _, Nat.zero_le _, rfl, hls, hl15, hb15, Nat.le_refl _, fun _ _ _ => rfl⟩
      case round =>
        obtain ⟨i, v, hi, rfl, hlr, hA, hb, hsw, hpres⟩ := hrel
        have hxr : At wr w.heap.size #[.string s1, .string s2, .bool lx, .slice ad k15 c] 24 := (hpres _ (by omega) (by omega)).trans hx15
        by_cases hin : i < k15
        · as_aux_lemma =>
            obtain ⟨g, rfl, hgB, hgl, hcells⟩ := HG.out (by omega)
            obtain ⟨k, hk, hkv, hkn⟩ := drawN_get HK.out hin
            have pk := hcells _ _ hkv
            have hce : ∀ o, wr.cell? ⟨g, o, none⟩ = w15.cell? ⟨g, o, none⟩ := fun o => by
              unfold World.cell?
              rw [hpres g hgl hgB]
            rw [← hce] at pk
            obtain ⟨b, off, rfl, hnc, f, hf, hcf⟩ := m5_row hm (by omega)
            obtain ⟨p0, p1, p2, p3, p4⟩ := hcf k hkn
            have hok := (hf k hkn)
            have p0 := cell_b p0 hb (cell_under p0)
            have p1 := cell_b p1 hb (cell_under p1)
            have p2 := cell_b p2 hb (cell_under p2)
            have p3 := cell_b p3 hb (cell_under p3)
            have p4 := cell_b p4 hb (cell_under p4)
            have hbk := hb9 k hkn
            clear hcf hf hce hcells hls hl15 hx15
            generalize f k = cc at hok p0 p1 p2 p3 p4
            obtain ⟨⟨-, -, -, x3⟩, -⟩ := box4 hxr
            have hal := (Below.refl wr.heap.size wr).alloc (Nat.le_refl _) (.cells #[.int .i64 cc.f1, .int .i64 cc.f2, .bool cc.xb, .string cc.s, .slice cc.a cc.k cc.c] 27)
            have hN := at_new wr #[.int .i64 cc.f1, .int .i64 cc.f2, .bool cc.xb, .string cc.s, .slice cc.a cc.k cc.c] 27
            obtain ⟨⟨-, -, -, -, n4⟩, -⟩ := box5 hN
            obtain ⟨f1, f2, xb, cs, ca, ck, cq⟩ := cc
            dsimp only at p0 p1 p2 p3 p4 hN n4
            have hq : Hid (f1 = (d k).fr ∧ f2 = (d k).to ∧ xb = decide ((d k).x ≠ 0) ∧ IsStr (.string cs) (d k).y (d k).so (d k).sn) := Lib.hid ⟨hok.1, hok.2.1, hok.2.2.1, hok.2.2.2.1⟩
            have hint := (hok.2.2.2.2.below hb).below hal
            dsimp only at hint
            obtain ⟨A, m, C, ev, hmc, hbm, hrow⟩ := hint
            simp only [Value.slice.injEq] at ev
            obtain ⟨rfl, rfl, rfl⟩ := ev
            obtain ⟨K, hK⟩ : ∃ K, K = fun j => dupL ((intsL (d k).t (d k).bo ck).take j) := ⟨_, rfl⟩
            have HS : Hid (∀ j, j < ck → K (j + 1) = K j ++ [(d k).t ((d k).bo + (j : Int)), (d k).t ((d k).bo + (j : Int))]) := Lib.hid fun j hj => by rw [hK]; exact dup_step hj
            have HLn : Hid (∀ j, j ≤ ck → (K j).length = 2 * j) := Lib.hid fun j hj => by rw [hK]; exact dup_len hj
            have H0 : K 0 = [] := by rw [hK]; rfl
            have HT : Hid (K ck = dupL (tchs (d k))) := Lib.hid (by
              rw [hK]
              unfold tchs
              rw [← hbm, Int.toNat_natCast]
              show dupL ((intsL (d k).t (d k).bo ck).take ck) = _
              rw [List.take_of_length_le (by rw [length_intsL]; exact Nat.le_refl _)])
            have hck : ck ≤ 9 := by omega
            have hlr1 := hlr.below hal
            have hA1 := hA.alloc (.cells #[.int .i64 f1, .int .i64 f2, .bool xb, .string cs, .slice ca ck cq] 27)
            have hb1 := hb.alloc hb.size (.cells #[.int .i64 f1, .int .i64 f2, .bool xb, .string cs, .slice ca ck cq] 27)
            have hsw1 : wr.heap.size < (wr.alloc (.cells #[.int .i64 f1, .int .i64 f2, .bool xb, .string cs, .slice ca ck cq] 27)).heap.size := by simp
            have hpres1 : ∀ q, q < w15.heap.size → q ≠ B7 → (wr.alloc (.cells #[.int .i64 f1, .int .i64 f2, .bool xb, .string cs, .slice ca ck cq] 27)).heap[q]? = w15.heap[q]? := fun q h1 h2 => (hal.block q (by omega)).trans (hpres q h1 h2)
            have hvn : v.ownBlock ≠ some wr.heap.size := fun e => by
              obtain ⟨lk, ho, -⟩ := hlr
              have := (ho.lt _ e).2; omega
            clear hK hok hbm hlr hA hb hpres
            go_wp2_with fail
            clear p0 p1 p2 p3 p4 pk x3 n4 hal hxr
            generalize wr.alloc (.cells #[.int .i64 f1, .int .i64 f2, .bool xb, .string cs, .slice ca ck cq] 27) = W1 at hN hrow hlr1 hA1 hb1 hsw1 hpres1 ⊢
            obtain ⟨w0, rfl⟩ : ∃ W : World, W = wr := ⟨_, rfl⟩
            go_loopw [15, 128] (fun r s wq => ∃ (j : Nat) (vt : Value), j ≤ ck ∧ s = .int .i64 j ∧ vt = r ∧ wq.ownsRow W1.heap.size 3 1 vt (K j).length (vsOf (K j)) ∧ Below W1.heap.size W1 wq) (fun _ s _ => ck - (numOf' s).toNat)
            case atStart => exact ⟨0, _, Nat.zero_le _, rfl, rfl, by rw [H0]; exact World.ownsRow_nil _ _ _ _, Below.refl _ _⟩
            case round =>
              obtain ⟨j, vt, hj, rfl, rfl, hown, hbel⟩ := hrel
              by_cases hjn : j < ck
              · as_aux_lemma =>
                  obtain ⟨bt, ot, rfl, hM⟩ := hrow (by omega)
                  have e1 : wr.cell? ⟨bt, ot + j, none⟩ = some (.int .i64 ((d k).t ((d k).bo + (j : Int)))) := (hbel.cell (cell_under (hM j hjn))).trans (hM j hjn)
                  have eK := HS.out j hjn
                  have hlen := HLn.out j hj
                  obtain ⟨z, hz⟩ : ∃ z, (d k).t ((d k).bo + (j : Int)) = z := ⟨_, rfl⟩
                  rw [hz] at e1 eK
                  clear hrow hM hz hN hlr1 hA1 hb1 hpres1
                  go_wp2_with (first
                    | (at_builtin; refine wpList_append_own _ rfl _ _ 25 rfl W1.heap.size 3 i3 (.int .i64 0) 1 8 underlying25 hi3 hz30 hz31 hz32 rfl (by decide) _ _ _ rfl (hown.alloc _) ⟨wr.heap.size, 0, none⟩ 2 2 [.int .i64 z, .int .i64 z] rfl rfl ?c1 ?c2 ?c3 ?c4 ?c5 ?_)
                    | go_in)
                  case c1 =>
                    intro q u hq
                    match q, hq with
                    | 0, hq => simp at hq; subst hq; simp [Addr.add]
                    | 1, hq => simp at hq; subst hq; simp [Addr.add]
                  case c2 => intro u hu; simp at hu; subst hu; rfl
                  case c3 => unfold maxLen; omega
                  case c4 => omega
                  case c5 => have := hbel.size; simp; omega
                  intro v' w3 hown3 hgrow _
                  have hb3 : Below W1.heap.size W1 w3 := (hbel.alloc hbel.size _).grown hgrow (by have := hbel.size; simp at this ⊢; omega) (fun q hq => by have := (hown.lt q hq).1; omega)
                  have ho3 : w3.ownsRow W1.heap.size 3 1 v' (K (j + 1)).length (vsOf (K (j + 1))) := by
                    have e2 : (K j ++ [z, z]).length = 2 * j + 2 := by rw [List.length_append, hlen]; rfl
                    rw [eK, e2]; simpa [vsOf] using hown3
                  clear hown3 hgrow hown eK
                  go_wp2
                  go_roundw
                  case rel => exact ⟨j + 1, _, by omega, by go_num, rfl, ho3, hb3⟩
                  case measure => simp [numOf'] <;> omega
              · obtain rfl : j = ck := by omega
                have hN7 := hN.below hbel hN.lt
                have hA7 := hA1.below hbel hA1.lt
                have hlr7 := hlr1.below hbel
                have hb7 := hb1.trans (hbel.mono hb1.size)
                have hs7 := hbel.size
                have hp7 : ∀ q, q < w15.heap.size → q ≠ B7 → wr.heap[q]? = w15.heap[q]? := fun q h1 h2 => (hbel.block q (by omega)).trans (hpres1 q h1 h2)
                obtain ⟨a7, k7, c7, rfl⟩ := owns_slice hown
                obtain ⟨av, kv, cv, rfl⟩ := hlr7.slice
                clear hlr1 hA1 hb1 hpres1 hN hrow HS HLn H0
                have hlr8 := hlr7.setM hN7 hvn 4 (.slice a7 k7 c7)
                have hA8 := hA7.setCell (a := ⟨w0.heap.size, 4, none⟩) (by simp; omega) (.slice a7 k7 c7)
                have hb8 := hb7.setCell (p := ⟨w0.heap.size, 4, none⟩) (by have := hb7.size; simp; omega) (.slice a7 k7 c7)
                have hN8 := hN7.set 4 (.slice a7 k7 c7)
                simp only [List.setIfInBounds_toArray, List.set_cons_zero, List.set_cons_succ] at hN8
                have hp8 : ∀ q, q < w15.heap.size → q ≠ B7 → (wr.setCell ⟨w0.heap.size, 4, none⟩ (.slice a7 k7 c7)).heap[q]? = w15.heap[q]? := fun q h1 h2 => (Below.heap_setCell _ _ _ _ (by simp; omega)).trans (hp7 q h1 h2)
                have ho8 := ownsRow_setCell_other hown (a := ⟨w0.heap.size, 4, none⟩) (fun e => by
                  obtain ⟨cs', fz, hc⟩ := Lib.ownsRow_kind hown _ e
                  unfold At at hN7
                  rw [hN7] at hc
                  simp at hc) (.slice a7 k7 c7)
                have f4 : wr.frozen? ⟨w0.heap.size, 4, none⟩ = false := (box5 hN7).2.2.2.2.2
                have q4 : wr.cell? ⟨w0.heap.size, 4, none⟩ = some (.slice ca j cq) := (box5 hN7).1.2.2.2.2
                have hs8 : (wr.setCell ⟨w0.heap.size, 4, none⟩ (.slice a7 k7 c7)).heap.size = wr.heap.size := size_set _ _ _
                have hM8 : M5Own (wr.setCell ⟨w0.heap.size, 4, none⟩ (.slice a7 k7 c7)) w15.heap.size ⟨f1, f2, xb, cs, a7, k7, c7⟩ (dblM (d k)) := by
                  rw [HT.out] at ho8
                  exact ⟨hq.out.1, hq.out.2.1, hq.out.2.2.1, hq.out.2.2.2, by rw [tchs_dblM]; exact owns_base ho8 (by omega), by simp [dblM]⟩
                obtain ⟨⟨q0, q1, q2, q3, -⟩, -⟩ := box5 hN7
                obtain ⟨⟨-, -, -, y3⟩, -⟩ := box4 hA7
                have HM8 := Lib.hid hM8
                have hlk : (((drawN key k15).take i).map fun k => dblM (d k)).length ≤ 1000000 := by
                  rw [List.length_map]
                  refine Nat.le_trans (List.length_take_le _ _) ?_
                  omega
                have hal8 := (Below.refl (wr.setCell ⟨w0.heap.size, 4, none⟩ (.slice a7 k7 c7)).heap.size _).alloc (Nat.le_refl _) (.cells #[.int .i64 f1, .int .i64 f2, .bool xb, .string cs, .slice a7 k7 c7] 27)
                have hlrA := hlr8.below hal8
                have hbn8 : At ((wr.setCell ⟨w0.heap.size, 4, none⟩ (.slice a7 k7 c7)).alloc (.cells #[.int .i64 f1, .int .i64 f2, .bool xb, .string cs, .slice a7 k7 c7] 27)) wr.heap.size #[.int .i64 f1, .int .i64 f2, .bool xb, .string cs, .slice a7 k7 c7] 27 := by
                  have := at_new (wr.setCell ⟨w0.heap.size, 4, none⟩ (.slice a7 k7 c7)) #[.int .i64 f1, .int .i64 f2, .bool xb, .string cs, .slice a7 k7 c7] 27
                  rw [size_set] at this
                  exact this
                clear hlr7 hA7 hb7 hN7 hp7 hown ho8 hM8 hlr8
                go_wp2_with (first
                  | (with_reducible refine haltM ?_)
                  | fail)
                unfold Halt
                refine wpList_sliceM _ rfl _ rfl f1 f2 xb cs a7 k7 c7 rfl ?_
                refine wpList_appendM _ rfl _ _ rfl w15.heap.size (wr.setCell ⟨w0.heap.size, 4, none⟩ (.slice a7 k7 c7)).heap.size (((drawN key k15).take i).map fun k => dblM (d k)) _ rfl 1 rfl hlrA hlk ⟨f1, f2, xb, cs, a7, k7, c7⟩ (at_new _ _ _) ?c2 ?_
                case c2 => simp; omega
                intro a9 k9 c9 w9 hA
                have eL : ((drawN key k15).take (i + 1)).map (fun k => dblM (d k)) = ((drawN key k15).take i).map (fun k => dblM (d k)) ++ [dblM (d k)] := by rw [List.take_add_one, hk]; simp
                have hlr9 : LsR w9 w15.heap.size (((drawN key k15).take (i + 1)).map fun k => dblM (d k)) (.slice a9 k9 c9) := by
                  rw [eL]; exact hA.row _ (HM8.out.below hal8)
                have old : ∀ q, q < w15.heap.size → w9.heap[q]? = (wr.setCell ⟨w0.heap.size, 4, none⟩ (.slice a7 k7 c7)).heap[q]? := fun q h1 => (hA.old q h1 (by simp; omega)).trans (Below.heap_alloc _ _ _ (by simp; omega))
                have hA9 : At w9 B7 #[.string s1, .string s2, .bool lx, .slice av kv cv] 24 := (old _ hs15).trans hA8
                have hsz9 : wr.heap.size ≤ w9.heap.size := by have := hA.size; simp at this; omega
                have hb9 : Below w.heap.size w w9 := hA.below w (hb8.alloc hb8.size _) hb15.size
                have hp9 : ∀ q, q < w15.heap.size → q ≠ B7 → w9.heap[q]? = w15.heap[q]? := fun q h1 h2 => (old q h1).trans (hp8 q h1 h2)
                obtain ⟨⟨z0, z1, z2, z3⟩, g0, g1, g2, g3⟩ := box4 hA9
                have hlr10 := hlr9.set (b := B7) hs15 3 (.slice a9 k9 c9)
                have hA10 := hA9.set 3 (.slice a9 k9 c9)
                simp only [List.setIfInBounds_toArray, List.set_cons_zero, List.set_cons_succ] at hA10
                have hb10 := hb9.setCell (p := ⟨B7, 3, none⟩) (by simp; omega) (.slice a9 k9 c9)
                have hp10 : ∀ q, q < w15.heap.size → q ≠ B7 → (w9.setCell ⟨B7, 3, none⟩ (.slice a9 k9 c9)).heap[q]? = w15.heap[q]? := fun q h1 h2 => (Below.heap_setCell _ _ _ _ (by simp; omega)).trans (hp9 q h1 h2)
                have hs10 : w15.heap.size ≤ (w9.setCell ⟨B7, 3, none⟩ (.slice a9 k9 c9)).heap.size := by rw [size_set]; omega
                clear hlr9 hA9 hb9 hp9 hA8 hb8 hN8 hp8 hA hal8 hlrA hbn8 old HM8 q0 q1 q2 q3 y3 f4 q4 hq eL
                go_wp2_with fail
                go_roundw
                case rel => exact ⟨i + 1, _, by omega, by go_num, hlr10, hA10, hb10, hs10, hp10⟩
                case measure => simp [numOf'] <;> omega
        · as_aux_lemma =>
            obtain rfl : i = k15 := by omega
            rw [List.take_of_length_le (by rw [length_drawN]; exact Nat.le_refl _)] at hlr
            go_wp2_with fail
            go_meet
            exact ⟨hb, hsw, hpres, _, v, rfl, hlr, hA⟩
  case rest =>
    obtain ⟨wA, eA⟩ : ∃ W : World, W = wc := ⟨_, rfl⟩
    subst eA
    clear HG hls
    go_upto_block 4 with fail
    go_cut [] from 18 (fun wx => Aft w w15 B7 s1 s2 lx (fun l => ∃ ex, ExOk d k15 ex ∧ l = looseL d (drawN key k15) ex) wx)
    case first =>
      as_aux_lemma =>
        obtain ⟨hbA, hsA, hpA, l, v, rfl, hlr, hlA⟩ := hcut
        obtain ⟨L0, hL0⟩ : ∃ L0, ((drawN key k15).map fun k => dblM (d k)) = L0 := ⟨_, rfl⟩
        have HL0 := Lib.hid hL0
        rw [hL0] at hlr
        have hL0n : L0.length ≤ 4 := by rw [← hL0, List.length_map, length_drawN]; omega
        clear hL0
        go_wp2_with fail
        go_loopw [18] (fun s wr => ∃ (f : Nat) (v : Value), 1 ≤ f ∧ f ≤ 4 ∧ s = .int .i64 f ∧ Below w.heap.size w wr ∧ w15.heap.size ≤ wr.heap.size ∧ (∀ q, q < w15.heap.size → q ≠ B7 → wr.heap[q]? = w15.heap[q]?) ∧ LsR wr w15.heap.size L0 v ∧ At wr B7 #[.string s1, .string s2, .bool lx, v] 24) (fun s _ => 4 - (numOf' s).toNat)
        case atStart => exact ⟨1, v, Nat.le_refl _, by omega, rfl, hbA, hsA, hpA, hlr, hlA⟩
        case round =>
          clear hbA hsA hpA hlr hlA
          obtain ⟨f, v, hf1, hf4, rfl, hbA, hsA, hpA, hlr, hlA⟩ := hrel
          by_cases hf : f ≤ 3
          · as_aux_lemma =>
              have hxA : At wr w.heap.size #[.string s1, .string s2, .bool lx, .slice ad k15 c] 24 := (hpA _ (by omega) (by omega)).trans hx15
              obtain ⟨⟨x0, x1, x2, x3⟩, -⟩ := box4 hxA
              have cM := HT.cMO _ f hbA
              go_wp2_with fail
              go_at_call 34
              refine cM.mono ?_
              rintro e w2 ⟨⟨kk, rfl, hix⟩, hk2⟩
              have hp2 : ∀ q, q < w15.heap.size → q ≠ B7 → w2.heap[q]? = w15.heap[q]? := fun q h1 h2 => (hk2.block q (by omega)).trans (hpA q h1 h2)
              have hb2 := hbA.trans (hk2.mono hbA.size)
              have hs2 := Nat.le_trans hsA hk2.size
              have hlr2 := hlr.below hk2
              have hl2 := hlA.below hk2 hlA.lt
              clear cM hxA hbA hsA hpA hlr hlA hk2 x0 x1 x2 x3
              rcases hix with ⟨rfl, hno⟩ | ⟨i, rfl, hi, -, -⟩
              · have HX : Hid (ExOk d k15 [stayM f]) := Lib.hid (.inr ⟨f, rfl, by omega, by omega, hno⟩)
                obtain ⟨⟨y0, y1, y2, y3⟩, -⟩ := box4 hl2
                have hal := (Below.refl w2.heap.size w2).alloc (Nat.le_refl _) (.cells #[.int .i64 f, .int .i64 f, .bool false, .string ⟨#[116]⟩, .slice none 0 0] 27)
                have hlrA := hlr2.below hal
                obtain ⟨av, kv, cv, rfl⟩ := hlr2.slice
                clear hno hlr2
                go_wp2_with (first
                  | (with_reducible refine haltM ?_)
                  | fail)
                unfold Halt
                refine wpList_sliceM _ rfl _ rfl (f : Int) (f : Int) false ⟨#[116]⟩ none 0 0 rfl ?_
                refine wpList_appendM _ rfl _ _ rfl w15.heap.size w2.heap.size L0 _ rfl 1 rfl hlrA ?c1 ⟨(f : Int), (f : Int), false, ⟨#[116]⟩, none, 0, 0⟩ (at_new _ _ _) ?c2 ?_
                case c1 => omega
                case c2 => simp; omega
                intro a9 k9 c9 w9 hA
                have hlr9 : LsR w9 w15.heap.size (L0 ++ [stayM f]) (.slice a9 k9 c9) := hA.row _ (stay_own _ _ _)
                have keep : ∀ q, q < w15.heap.size → w9.heap[q]? = w2.heap[q]? := fun q hq => (hA.old q hq (by simp; omega)).trans (hal.block q (by omega))
                have hl9 : At w9 B7 #[.string s1, .string s2, .bool lx, .slice av kv cv] 24 := (keep _ hs15).trans hl2
                obtain ⟨⟨z0, z1', z2', z3⟩, g0, g1, g2, g3⟩ := box4 hl9
                have hb9 : Below w.heap.size w w9 := hA.below w (hb2.alloc hb2.size _) hb15.size
                have hs9 : w15.heap.size ≤ w9.heap.size := by have := hA.size; simp at this; omega
                have hlr10 := hlr9.set (b := B7) hs15 3 (.slice a9 k9 c9)
                have hl10 := hl9.set 3 (.slice a9 k9 c9)
                simp only [List.setIfInBounds_toArray, List.set_cons_zero, List.set_cons_succ] at hl10
                have hb10 := hb9.setCell (p := ⟨B7, 3, none⟩) (by simp; omega) (.slice a9 k9 c9)
                have hp10 : ∀ q, q < w15.heap.size → q ≠ B7 → (w9.setCell ⟨B7, 3, none⟩ (.slice a9 k9 c9)).heap[q]? = w15.heap[q]? := fun q h1 h2 => (Below.heap_setCell _ _ _ _ (by simp; omega)).trans ((keep q h1).trans (hp2 q h1 h2))
                have hs10 : w15.heap.size ≤ (w9.setCell ⟨B7, 3, none⟩ (.slice a9 k9 c9)).heap.size := by rw [size_set]; omega
                clear hlr9 hl9 hb9 hs9 hA hal hlrA y0 y1 y2 y3 keep hp2
                go_wp2_with fail
                go_meet
                refine ⟨hb10, hs10, hp10, _, _, ⟨[stayM f], HX.out, ?_⟩, hlr10, hl10⟩
                unfold looseL
                rw [HL0.out]
              · have hi0 : ¬ ((i : Int) < 0) := by omega
                go_wp2_with fail
                go_roundw
                case rel => exact ⟨f + 1, v, by omega, by omega, by go_num, hb2, hs2, hp2, hlr2, hl2⟩
                case measure => simp [numOf'] <;> omega
          · as_aux_lemma =>
              obtain rfl : f = 4 := by omega
              go_wp2_with fail
              go_meet
              refine ⟨hbA, hsA, hpA, _, v, ⟨[], .inl rfl, ?_⟩, hlr, hlA⟩
              unfold looseL
              rw [HL0.out, List.append_nil]
    case rest =>
      obtain ⟨wB, eB⟩ : ∃ W : World, W = wc := ⟨_, rfl⟩
      subst eB
      obtain ⟨hb0, hs0, hp0, l, v, ⟨ex, hex, rfl⟩, hlr, hl0⟩ := hcut
      have hx0 : At wB w.heap.size #[.string s1, .string s2, .bool lx, .slice ad k15 c] 24 := (hp0 _ (by omega) (by omega)).trans hx15
      have hy0 : At wB (w.heap.size + 1) #[.string z1, .string z2, .bool zx, .slice ad' n' c'] 24 := (hp0 _ hy15.lt (by omega)).trans hy15
      have hc0 : At wB w6.heap.size #[.string s1, .string s2, .bool tx, .slice a6 k15 k6] 24 := (hp0 _ hc15.lt hc6B).trans hc15
      have hm0 := hmc15.but2 hp0 (no_int hl15)
      clear hp0 hs0 hx15 hy15 hc15 hl15 hmc15 hb15
      obtain ⟨P3, HL⟩ := HT.lo ex hex
      have hmL := hlr.row
      obtain ⟨av, kv, cv, rfl⟩ := hlr.slice
      have hkv := hlr.count
      generalize looseL d (drawN key k15) ex = LL at HL hmL hkv hlr
      subst hkv
      clear hlr hex
      obtain ⟨t1, t2, t3, M3⟩ := P3
      
      obtain ⟨⟨x0, x1, x2, x3⟩, -⟩ := box4 hl0
      go_wp2_with fail
      go_at_call 16
      refine (HL.copy _ _ _ hb0 hmL).mono ?_
      rintro e u1 ⟨a1, c1, rfl, hn1, hk1⟩
      have hb1_ := hb0.trans (hk1.mono hb0.size)
      have hx1_ := hx0.below hk1 hx0.lt
      have hy1_ := hy0.below hk1 hy0.lt
      have hc1_ := hc0.below hk1 hc0.lt
      have hl1_ := hl0.below hk1 hl0.lt
      have hmc1_ := hm0.below hk1
      have hml1_ := hmL.below hk1
      clear hb0 hx0 hy0 hc0 hl0 hm0 hmL hk1 x0 x1 x2 x3
      go_wp2_with fail
      go_at_call 53
      refine (HL.can _ _ _ hb1_ hn1).mono ?_
      rintro e u2 ⟨⟨mv2, rfl, hmd0⟩, hk2⟩
      have hb2_ := hb1_.trans (hk2.mono hb1_.size)
      have hx2_ := hx1_.below hk2 hx1_.lt
      have hy2_ := hy1_.below hk2 hy1_.lt
      have hc2_ := hc1_.below hk2 hc1_.lt
      have hl2_ := hl1_.below hk2 hl1_.lt
      have hmc2_ := hmc1_.below hk2
      have hml2_ := hml1_.below hk2
      clear hb1_ hx1_ hy1_ hc1_ hl1_ hmc1_ hml1_ hk2 
      dsimp only at hmd0 ⊢
      have hmd0' := hmd0
      obtain ⟨ad2, kd2, rfl, -, -⟩ := hmd0'
      have hal := (Below.refl u2.heap.size u2).alloc (Nat.le_refl _) (.cells #[.string t1, .string t2, .bool t3, .slice ad2 M3.length kd2] 24)
      have hb3_ := hb2_.trans (hal.mono hb2_.size)
      have hx3_ := hx2_.below hal hx2_.lt
      have hy3_ := hy2_.below hal hy2_.lt
      have hc3_ := hc2_.below hal hc2_.lt
      have hl3_ := hl2_.below hal hl2_.lt
      have hmc3_ := hmc2_.below hal
      have hml3_ := hml2_.below hal
      have hmd3_ := hmd0.below hal
      have hd3_ := at_new u2 #[.string t1, .string t2, .bool t3, .slice ad2 M3.length kd2] 24
      clear hb2_ hx2_ hy2_ hc2_ hl2_ hmc2_ hml2_ hmd0 hal
      go_wp2_with fail
      generalize u2.alloc (.cells #[.string t1, .string t2, .bool t3, .slice ad2 M3.length kd2] 24) = W3 at hb3_ hx3_ hy3_ hc3_ hl3_ hmc3_ hml3_ hmd3_ hd3_ ⊢
      go_cut [21, 22] (fun s21 s22 wx => CutE W3 true 0 s21 s22 wx)
      case first =>
        as_aux_lemma =>
          obtain ⟨⟨x0, x1, x2, x3⟩, -⟩ := box4 hl3_
          obtain ⟨⟨p0, p1, p2, p3⟩, -⟩ := box4 hx3_
          have hdr : Below W3.heap.size W3 W3.drew := (Below.refl _ _).drew
          have hbW := hb3_
          have hmL0 := hml3_
          go_region_held3 (fun W => W.cell? ⟨B7, 0, none⟩ = some (.string s1) ∧ W.cell? ⟨B7, 1, none⟩ = some (.string s2) ∧ W.cell? ⟨B7, 2, none⟩ = some (.bool lx) ∧ W.cell? ⟨B7, 3, none⟩ = some (.slice av LL.length cv) ∧ W.cell? ⟨w.heap.size, 0, none⟩ = some (.string s1) ∧ W.cell? ⟨w.heap.size, 1, none⟩ = some (.string s2) ∧ W.cell? ⟨w.heap.size, 2, none⟩ = some (.bool lx) ∧ W.cell? ⟨w.heap.size, 3, none⟩ = some (.slice ad k15 c) ∧ Below W3.heap.size W3 W)
            (go_keep)
            (first
              | (go_at_call 16; (with_reducible refine Calls.mono (HL.copy _ _ _ ?_ (hmL0.below (by assumption))) ?_); (exact hbW.trans (Below.mono (B := W3.heap.size) (by assumption) hbW.size)); rintro e W ⟨aP, kP, rfl, hmP, hkk⟩; have hbk := Below.trans (B := W3.heap.size) (a := W3) (by assumption) (Below.mono hkk (Below.size (B := W3.heap.size) (w := W3) (by assumption))); (try have hmQ := hmQ.below hkk); obtain ⟨⟨x0, x1, x2, x3⟩, -⟩ := box4 (hl3_.below hbk hl3_.lt); obtain ⟨⟨p0, p1, p2, p3⟩, -⟩ := box4 (hx3_.below hbk hx3_.lt))
              | (go_at_call 16; (with_reducible refine Calls.mono (HT.cP _ ?_) ?_); (exact hbW.trans (Below.mono (B := W3.heap.size) (by assumption) hbW.size)); rintro e W ⟨aQ, kQ, rfl, hmQ, hkk⟩; have hbk := Below.trans (B := W3.heap.size) (a := W3) (by assumption) (Below.mono hkk (Below.size (B := W3.heap.size) (w := W3) (by assumption))); (try have hmP := hmP.below hkk); obtain ⟨⟨x0, x1, x2, x3⟩, -⟩ := box4 (hl3_.below hbk hl3_.lt); obtain ⟨⟨p0, p1, p2, p3⟩, -⟩ := box4 (hx3_.below hbk hx3_.lt))
              | (go_at_call 54; (with_reducible refine Calls.mono (HL.eq _ _ _ _ _ ?_ hmP hmQ) ?_); (exact hbW.trans (Below.mono (B := W3.heap.size) (by assumption) hbW.size)); rintro e W ⟨rfl, hkk⟩; have hbk := Below.trans (B := W3.heap.size) (a := W3) (by assumption) (Below.mono hkk (Below.size (B := W3.heap.size) (w := W3) (by assumption))); obtain ⟨⟨x0, x1, x2, x3⟩, -⟩ := box4 (hl3_.below hbk hl3_.lt); obtain ⟨⟨p0, p1, p2, p3⟩, -⟩ := box4 (hx3_.below hbk hx3_.lt)))
          all_goals (go_wp2_with fail; go_meet; exact ⟨rfl, rfl, hbk⟩)
      case rest =>
      obtain ⟨rfl, rfl, hbA⟩ := hcut
      have hb4_ := hb3_.trans (hbA.mono hb3_.size)
      have hx4_ := hx3_.below hbA hx3_.lt
      have hy4_ := hy3_.below hbA hy3_.lt
      have hc4_ := hc3_.below hbA hc3_.lt
      have hl4_ := hl3_.below hbA hl3_.lt
      have hmc4_ := hmc3_.below hbA
      have hml4_ := hml3_.below hbA
      have hmd4_ := hmd3_.below hbA
      have hd4_ := hd3_.below hbA hd3_.lt
      clear hb3_ hx3_ hy3_ hc3_ hl3_ hmc3_ hml3_ hmd3_ hd3_ hbA
      obtain ⟨U4, eU⟩ : ∃ W : World, W = wc := ⟨_, rfl⟩
      subst eU
      clear hl4_ hml4_
      obtain ⟨W4, eW⟩ : ∃ W : World, W = U4 := ⟨_, rfl⟩
      subst eW
      go_wp2_with fail
      go_cut [23, 24] (fun s23 s24 wx => CutE W4 sm 0 s23 s24 wx)
      case first =>
        as_aux_lemma =>
          obtain ⟨⟨x0, x1, x2, x3⟩, -⟩ := box4 hx4_
          obtain ⟨⟨p0, p1, p2, p3⟩, -⟩ := box4 hy4_
          have hdr : Below W4.heap.size W4 W4.drew := (Below.refl _ _).drew
          have hbW := hb4_
          go_region_held3 (fun W => W.cell? ⟨w.heap.size, 0, none⟩ = some (.string s1) ∧ W.cell? ⟨w.heap.size, 1, none⟩ = some (.string s2) ∧ W.cell? ⟨w.heap.size, 2, none⟩ = some (.bool lx) ∧ W.cell? ⟨w.heap.size, 3, none⟩ = some (.slice ad k15 c) ∧ W.cell? ⟨w.heap.size + 1, 0, none⟩ = some (.string z1) ∧ W.cell? ⟨w.heap.size + 1, 1, none⟩ = some (.string z2) ∧ W.cell? ⟨w.heap.size + 1, 2, none⟩ = some (.bool zx) ∧ W.cell? ⟨w.heap.size + 1, 3, none⟩ = some (.slice ad' n' c') ∧ Below W4.heap.size W4 W)
            (go_keep)
            (first
              | (go_at_call 16; (with_reducible refine Calls.mono (HT.cP _ ?_) ?_); (exact hbW.trans (Below.mono (B := W4.heap.size) (by assumption) hbW.size)); rintro e W ⟨aP, kP, rfl, hmP, hkk⟩; have hbk := Below.trans (B := W4.heap.size) (a := W4) (by assumption) (Below.mono hkk (Below.size (B := W4.heap.size) (w := W4) (by assumption))); (try have hmQ := hmQ.below hkk); obtain ⟨⟨x0, x1, x2, x3⟩, -⟩ := box4 (hx4_.below hbk hx4_.lt); obtain ⟨⟨p0, p1, p2, p3⟩, -⟩ := box4 (hy4_.below hbk hy4_.lt))
              | (go_at_call 16; (with_reducible refine Calls.mono (HT.cO _ ?_) ?_); (exact hbW.trans (Below.mono (B := W4.heap.size) (by assumption) hbW.size)); rintro e W ⟨aQ, kQ, rfl, hmQ, hkk⟩; have hbk := Below.trans (B := W4.heap.size) (a := W4) (by assumption) (Below.mono hkk (Below.size (B := W4.heap.size) (w := W4) (by assumption))); (try have hmP := hmP.below hkk); obtain ⟨⟨x0, x1, x2, x3⟩, -⟩ := box4 (hx4_.below hbk hx4_.lt); obtain ⟨⟨p0, p1, p2, p3⟩, -⟩ := box4 (hy4_.below hbk hy4_.lt))
              | (go_at_call 54; (with_reducible refine Calls.mono (HT.cE2 _ _ _ _ _ ?_ hmP hmQ) ?_); (exact hbW.trans (Below.mono (B := W4.heap.size) (by assumption) hbW.size)); rintro e W ⟨rfl, hkk⟩; have hbk := Below.trans (B := W4.heap.size) (a := W4) (by assumption) (Below.mono hkk (Below.size (B := W4.heap.size) (w := W4) (by assumption))); obtain ⟨⟨x0, x1, x2, x3⟩, -⟩ := box4 (hx4_.below hbk hx4_.lt); obtain ⟨⟨p0, p1, p2, p3⟩, -⟩ := box4 (hy4_.below hbk hy4_.lt)))
          all_goals (go_wp2_with fail; go_meet; exact ⟨rfl, rfl, hbk⟩)
      case rest =>
      obtain ⟨rfl, rfl, hbA⟩ := hcut
      have hb5_ := hb4_.trans (hbA.mono hb4_.size)
      have hx5_ := hx4_.below hbA hx4_.lt
      have hy5_ := hy4_.below hbA hy4_.lt
      have hc5_ := hc4_.below hbA hc4_.lt
      have hmc5_ := hmc4_.below hbA
      have hmd5_ := hmd4_.below hbA
      have hd5_ := hd4_.below hbA hd4_.lt
      clear hb4_ hx4_ hy4_ hc4_ hmc4_ hmd4_ hd4_ hbA
      obtain ⟨U5, eU⟩ : ∃ W : World, W = wc := ⟨_, rfl⟩
      subst eU
      obtain ⟨⟨y0, y1, y2, y3''⟩, -⟩ := box4 hy5_
      go_wp2_with fail
      go_at_call 16
      refine (HT.cO _ hb5_).mono ?_
      rintro e u6 ⟨a3, k3, rfl, hn3, hk6⟩
      have hb6_ := hb5_.trans (hk6.mono hb5_.size)
      have hx6_ := hx5_.below hk6 hx5_.lt
      have hy6_ := hy5_.below hk6 hy5_.lt
      have hc6_ := hc5_.below hk6 hc5_.lt
      have hmc6_ := hmc5_.below hk6
      have hmd6_ := hmd5_.below hk6
      have hd6_ := hd5_.below hk6 hd5_.lt
      clear hb5_ hx5_ hy5_ hc5_ hmc5_ hmd5_ hd5_ hk6 y0 y1 y2 y3''
      go_wp2_with fail
      go_at_call 53
      refine (HT.cNO _ _ _ hb6_ hn3).mono ?_
      rintro e u7 ⟨⟨mv4, rfl, hme0⟩, hk7⟩
      have hb7_ := hb6_.trans (hk7.mono hb6_.size)
      have hx7_ := hx6_.below hk7 hx6_.lt
      have hy7_ := hy6_.below hk7 hy6_.lt
      have hc7_ := hc6_.below hk7 hc6_.lt
      have hmc7_ := hmc6_.below hk7
      have hmd7_ := hmd6_.below hk7
      have hd7_ := hd6_.below hk7 hd6_.lt
      clear hb6_ hx6_ hy6_ hc6_ hmc6_ hmd6_ hd6_ hk7 hn3
      dsimp only at hme0 ⊢
      rw [HT.len'] at hme0
      have hme0' := hme0
      obtain ⟨ae, ke, rfl, -, -⟩ := hme0'
      clear hy7_
      have hal := (Below.refl u7.heap.size u7).alloc (Nat.le_refl _) (.cells #[.string z1, .string z2, .bool tz, .slice ae n' ke] 24)
      have hb8_ := hb7_.trans (hal.mono hb7_.size)
      have hx8_ := hx7_.below hal hx7_.lt
      have hc8_ := hc7_.below hal hc7_.lt
      have hmc8_ := hmc7_.below hal
      have hmd8_ := hmd7_.below hal
      have hd8_ := hd7_.below hal hd7_.lt
      have hme8_ := hme0.below hal
      have he8_ := at_new u7 #[.string z1, .string z2, .bool tz, .slice ae n' ke] 24
      clear hb7_ hx7_ hc7_ hmc7_ hmd7_ hd7_ hme0 hal
      obtain ⟨⟨x0, x1, x2, x3⟩, -⟩ := box4 hc8_
      go_wp2_with fail
      go_at_call 16
      refine (HT.cC _ _ _ hmc8_).mono ?_
      rintro e u9 ⟨a5, k5, rfl, hn5, hk9⟩
      have hb9_ := hb8_.trans (hk9.mono hb8_.size)
      have hx9_ := hx8_.below hk9 hx8_.lt
      have hc9_ := hc8_.below hk9 hc8_.lt
      have hmc9_ := hmc8_.below hk9
      have hmd9_ := hmd8_.below hk9
      have hd9_ := hd8_.below hk9 hd8_.lt
      have hme9_ := hme8_.below hk9
      have he9_ := he8_.below hk9 he8_.lt
      clear hb8_ hx8_ hc8_ hmc8_ hmd8_ hd8_ hme8_ he8_ hk9 x0 x1 x2 x3
      go_wp2_with fail
      go_at_call 21
      refine (HT.cPC _ _ _ hb9_ hn5).mono ?_
      rintro e u10 ⟨rfl, hk10⟩
      have hb10_ := hb9_.trans (hk10.mono hb9_.size)
      have hx10_ := hx9_.below hk10 hx9_.lt
      have hc10_ := hc9_.below hk10 hc9_.lt
      have hmc10_ := hmc9_.below hk10
      have hmd10_ := hmd9_.below hk10
      have hd10_ := hd9_.below hk10 hd9_.lt
      have hme10_ := hme9_.below hk10
      have he10_ := he9_.below hk10 he9_.lt
      clear hb9_ hx9_ hc9_ hmc9_ hmd9_ hd9_ hme9_ he9_ hk10 hn5
      obtain ⟨⟨x0, x1, x2, x3⟩, -⟩ := box4 he10_
      go_wp2_with fail
      go_at_call 16
      refine (HT.cX _ _ _ hme10_).mono ?_
      rintro e u11 ⟨a6', k6', rfl, hn6, hk11⟩
      have hb11_ := hb10_.trans (hk11.mono hb10_.size)
      have hx11_ := hx10_.below hk11 hx10_.lt
      have hc11_ := hc10_.below hk11 hc10_.lt
      have hmc11_ := hmc10_.below hk11
      have hmd11_ := hmd10_.below hk11
      have hd11_ := hd10_.below hk11 hd10_.lt
      have hme11_ := hme10_.below hk11
      have he11_ := he10_.below hk11 he10_.lt
      clear hb10_ hx10_ hc10_ hmc10_ hmd10_ hd10_ hme10_ he10_ hk11 x0 x1 x2 x3
      go_wp2_with fail
      go_at_call 21
      refine (HT.cPX _ _ _ hb11_ hn6).mono ?_
      rintro e u12 ⟨rfl, hk12⟩
      have hb12_ := hb11_.trans (hk12.mono hb11_.size)
      have hx12_ := hx11_.below hk12 hx11_.lt
      have hc12_ := hc11_.below hk12 hc11_.lt
      have hmc12_ := hmc11_.below hk12
      have hmd12_ := hmd11_.below hk12
      have hd12_ := hd11_.below hk12 hd11_.lt
      have hme12_ := hme11_.below hk12
      have he12_ := he11_.below hk12 he11_.lt
      clear hb11_ hx11_ hc11_ hmc11_ hmd11_ hd11_ hme11_ he11_ hk12 hn6
      clear he12_ hme12_
      obtain ⟨⟨x0, x1, x2, x3⟩, -⟩ := box4 hc12_
      go_wp2_with fail
      go_at_call 16
      refine (HT.cC _ _ _ hmc12_).mono ?_
      rintro e u13 ⟨a7, k7, rfl, hn7, hk13⟩
      have hb13_ := hb12_.trans (hk13.mono hb12_.size)
      have hx13_ := hx12_.below hk13 hx12_.lt
      have hc13_ := hc12_.below hk13 hc12_.lt
      have hmc13_ := hmc12_.below hk13
      have hmd13_ := hmd12_.below hk13
      have hd13_ := hd12_.below hk13 hd12_.lt
      clear hb12_ hx12_ hc12_ hmc12_ hmd12_ hd12_ hk13 x0 x1 x2 x3
      go_wp2_with fail
      go_at_call 46
      refine (HT.cRu _ _ _ hb13_ hn7).mono ?_
      rintro e u14 ⟨rfl, hk14⟩
      have hb14_ := hb13_.trans (hk14.mono hb13_.size)
      have hx14_ := hx13_.below hk14 hx13_.lt
      have hc14_ := hc13_.below hk14 hc13_.lt
      have hmc14_ := hmc13_.below hk14
      have hmd14_ := hmd13_.below hk14
      have hd14_ := hd13_.below hk14 hd13_.lt
      clear hb13_ hx13_ hc13_ hmc13_ hmd13_ hd13_ hk14 hn7
      obtain ⟨⟨x0, x1, x2, x3⟩, -⟩ := box4 hc14_
      go_wp2_with fail
      go_at_call 16
      refine (HT.cC _ _ _ hmc14_).mono ?_
      rintro e u15 ⟨a8, k8, rfl, hn8, hk15⟩
      have hb15_ := hb14_.trans (hk15.mono hb14_.size)
      have hx15_ := hx14_.below hk15 hx14_.lt
      have hc15_ := hc14_.below hk15 hc14_.lt
      have hmc15_ := hmc14_.below hk15
      have hmd15_ := hmd14_.below hk15
      have hd15_ := hd14_.below hk15 hd14_.lt
      clear hb14_ hx14_ hc14_ hmc14_ hmd14_ hd14_ hk15 x0 x1 x2 x3
      go_wp2_with fail
      go_at_call 45
      refine (HT.cOu _ _ _ hb15_ hn8).mono ?_
      rintro e u16 ⟨rfl, hk16⟩
      have hb16_ := hb15_.trans (hk16.mono hb15_.size)
      have hx16_ := hx15_.below hk16 hx15_.lt
      have hc16_ := hc15_.below hk16 hc15_.lt
      have hmc16_ := hmc15_.below hk16
      have hmd16_ := hmd15_.below hk16
      have hd16_ := hd15_.below hk16 hd15_.lt
      clear hb15_ hx15_ hc15_ hmc15_ hmd15_ hd15_ hk16 hn8
      obtain ⟨⟨x0, x1, x2, x3⟩, -⟩ := box4 hd16_
      obtain ⟨⟨y0, y1, y2, y3''⟩, -⟩ := box4 hc16_
      have cS : Calls prog 25 #[.agg #[.string t1, .string t2, .bool t3, .slice ad2 M3.length kd2], .agg #[.string s1, .string s2, .bool tx, .slice a6 k15 k6]] u16 fun e w' => e = .returned (.bool true) ∧ Below u16.heap.size u16 w' := by
        have := samePlay_w (s1 := t1) (s2 := t2) (z1 := s1) (z2 := s2) (lx := t3) (zx := tx) hmd16_ hmc16_ HL.small.1 HL.small.2
        have e := HL.same
        unfold sameP at e
        dsimp only at e
        rw [HT.len] at e
        rw [e] at this
        exact this
      go_wp2_with fail
      go_at_call 25
      refine (cS).mono ?_
      rintro e u17 ⟨rfl, hk17⟩
      have hb17_ := hb16_.trans (hk17.mono hb16_.size)
      have hx17_ := hx16_.below hk17 hx16_.lt
      have hc17_ := hc16_.below hk17 hc16_.lt
      have hmc17_ := hmc16_.below hk17
      have hmd17_ := hmd16_.below hk17
      have hd17_ := hd16_.below hk17 hd16_.lt
      clear hb16_ hx16_ hc16_ hmc16_ hmd16_ hd16_ hk17 x0 x1 x2 x3 y0 y1 y2 y3'' cS
      have hss := HT.ss
      obtain ⟨⟨x0, x1, x2, x3⟩, -⟩ := box4 hx17_
      obtain ⟨⟨y0, y1, y2, y3''⟩, -⟩ := box4 hc17_
      have cR1 := HT.cRR _ hb17_
      cases sm
      · as_aux_lemma =>
          go_wp2_with fail
          go_at_call 49
          refine (cR1).mono ?_
          rintro e u18 ⟨rfl, hk18⟩
          have hb18_ := hb17_.trans (hk18.mono hb17_.size)
          have hx18_ := hx17_.below hk18 hx17_.lt
          have hc18_ := hc17_.below hk18 hc17_.lt
          have hmc18_ := hmc17_.below hk18
          have hmd18_ := hmd17_.below hk18
          have hd18_ := hd17_.below hk18 hd17_.lt
          clear hb17_ hx17_ hc17_ hmc17_ hmd17_ hd17_ hk18 x0 x1 x2 x3 y0 y1 y2 y3''
          obtain ⟨⟨x0, x1, x2, x3⟩, -⟩ := box4 hx18_
          obtain ⟨⟨y0, y1, y2, y3''⟩, -⟩ := box4 hc18_
          have cR2 := HT.cOR _ hb18_
          go_wp2_with fail
          go_at_call 48
          refine (cR2).mono ?_
          rintro e u19 ⟨rfl, hk19⟩
          have hb19_ := hb18_.trans (hk19.mono hb18_.size)
          have hx19_ := hx18_.below hk19 hx18_.lt
          have hc19_ := hc18_.below hk19 hc18_.lt
          have hmc19_ := hmc18_.below hk19
          have hmd19_ := hmd18_.below hk19
          have hd19_ := hd18_.below hk19 hd18_.lt
          clear hb18_ hx18_ hc18_ hmc18_ hmd18_ hd18_ hk19 x0 x1 x2 x3 y0 y1 y2 y3''
          obtain ⟨⟨x0, x1, x2, x3⟩, -⟩ := box4 hx19_
          obtain ⟨⟨y0, y1, y2, y3''⟩, -⟩ := box4 hc19_
          cases tx
          · go_wp2
            go_ret
            exact ⟨rfl, hb19_⟩
          · obtain ⟨rfl, ha, hb⟩ := HT.late rfl
            go_wp2
            go_ret
            exact ⟨rfl, hb19_⟩
      · as_aux_lemma =>
          go_wp2_with fail
          go_at_call 49
          refine (cR1).mono ?_
          rintro e u20 ⟨rfl, hk20⟩
          have hb20_ := hb17_.trans (hk20.mono hb17_.size)
          have hx20_ := hx17_.below hk20 hx17_.lt
          have hc20_ := hc17_.below hk20 hc17_.lt
          have hmc20_ := hmc17_.below hk20
          have hmd20_ := hmd17_.below hk20
          have hd20_ := hd17_.below hk20 hd17_.lt
          clear hb17_ hx17_ hc17_ hmc17_ hmd17_ hd17_ hk20 x0 x1 x2 x3 y0 y1 y2 y3''
          obtain ⟨⟨x0, x1, x2, x3⟩, -⟩ := box4 hx20_
          obtain ⟨⟨y0, y1, y2, y3''⟩, -⟩ := box4 hc20_
          have cR2 := HT.cOR _ hb20_
          go_wp2_with fail
          go_at_call 48
          refine (cR2).mono ?_
          rintro e u21 ⟨rfl, hk21⟩
          have hb21_ := hb20_.trans (hk21.mono hb20_.size)
          have hx21_ := hx20_.below hk21 hx20_.lt
          have hc21_ := hc20_.below hk21 hc20_.lt
          have hmc21_ := hmc20_.below hk21
          have hmd21_ := hmd20_.below hk21
          have hd21_ := hd20_.below hk21 hd20_.lt
          clear hb20_ hx20_ hc20_ hmc20_ hmd20_ hd20_ hk21 x0 x1 x2 x3 y0 y1 y2 y3''
          obtain ⟨⟨x0, x1, x2, x3⟩, -⟩ := box4 hx21_
          obtain ⟨⟨y0, y1, y2, y3''⟩, -⟩ := box4 hc21_
          cases tx
          · go_wp2
            go_ret
            exact ⟨rfl, hb21_⟩
          · obtain ⟨rfl, ha, hb⟩ := HT.late rfl
            go_wp2
            go_ret
            exact ⟨rfl, hb21_⟩
end
end Go.Proofs.Tryz

namespace Go.Proofs.Tryz
open Go Go.Am Go.RowKit Go.Dr
set_option maxRecDepth 100000

theorem loose_law {w : World} {y0 y1 u0 u1 : Int → Int} {yo yn eo en uo un fo fn : Int} {lx zx : Bool} {d d' : Nat → MvD} {n n' : Nat} {pv ev mv pv' ev' mv' : Value} {key : Int}
    (hL : Laid w) (hp : IsStr pv y0 yo yn) (he : IsStr ev y1 eo en) (hm : IsMoves w mv d n) (hb : ∀ i, i < n → 0 ≤ (d i).bn) (hp' : IsStr pv' u0 uo un) (he' : IsStr ev' u1 fo fn) (hm' : IsMoves w mv' d' n') (hb' : ∀ i, i < n' → 0 ≤ (d' i).bn) :
    Calls prog 10 #[.agg #[pv, ev, .bool lx, mv], .agg #[pv', ev', .bool zx, mv'], .int .i64 key] w fun e w' => e = .returned (.bool true) ∧ Below w.heap.size w w' := by
  have hp1 := hp
  have he1 := he
  have hm1 := hm
  have hp2 := hp'
  have he2 := he'
  have hm2 := hm'
  obtain ⟨l1, rfl, -, -⟩ := hp1
  obtain ⟨l2, rfl, -, -⟩ := he1
  obtain ⟨a, c, rfl, -, -⟩ := hm1
  obtain ⟨l3, rfl, -, -⟩ := hp2
  obtain ⟨l4, rfl, -, -⟩ := he2
  obtain ⟨a', c', rfl, -, -⟩ := hm2
  by_cases h : plV y0 yo yn y1 eo en d n = 0
  · by_cases h' : plV u0 uo un u1 fo fn d' n' = 0
    · by_cases hk : drwV key n = 0
      · exact loose_go hL hp he hm h hp' he' hm' h' hk (full_of h hb (by obtain ⟨_, _, e, _⟩ := hp; omega) (by obtain ⟨_, _, e, _⟩ := he; omega)) (full_of h' hb' (by obtain ⟨_, _, e, _⟩ := hp'; omega) (by obtain ⟨_, _, e, _⟩ := he'; omega))
      · exact loose_no3 hL hp he hm h hp' he' hm' h' hk
    · exact loose_no2 hL hp he hm h hp' he' hm' h'
  · exact loose_no1 hL hp he hm h
end Go.Proofs.Tryz

namespace Go.Proofs.Tryz
open Go Go.Am Go.ChangeShapes Go.WideShapes Go.ChangeAt Go.RowKit
open YthlmjjdlmidnlaaGreatDoor
set_option maxRecDepth 100000

theorem loose_lifted (os : Os) (started : os.Started) (H : Type) (enc : TypeId × Value → H) :
    ReturnsInHanded {} checked os 10 .any (fun w args => (Rows.playLooseSpec.pre enc prog f10 [] false w args ∧ laidMetH prog Rows.playLooseRow.laid w) ∧ sizedMet enc prog f10 (OpenSpec.ofChange Rows.playLooseSpec) false w args)
      (Rows.playLooseSpec.post enc prog f10 false true false false) := by
  refine returnsInHanded_of_change_and (C := checked) (X := fun w _ => laidMetH prog Rows.playLooseRow.laid w) (fun _ _ _ hh h => h.of_heap hh) own started (by kernel_rfl) func10
    (ChangeSpec.witness_shaped (enc := enc) (C := checked) (os := os) (X := fun w _ => laidMetH prog Rows.playLooseRow.laid w) false (World.laidAll prog os Rows.playLooseRow.laid) #[.agg #[.string ⟨#[]⟩, .string ⟨#[]⟩, .bool false, .slice none 0 0], .agg #[.string ⟨#[]⟩, .string ⟨#[]⟩, .bool false, .slice none 0 0], .int .i64 0] 8 (World.laidAll_os _ _ _) (laid_shaped os) (by kernel_rfl) (by kernel_rfl) (by kernel_rfl) (laid_met os _)) ?_
  intro W base args ds gs before hval0 hW _ _ hL _
  have hval : ∀ (j : Nat) t v, f10.params[j]? = some t → args[j]? = some v → Value.okWide prog W .any base t v := hval0
  have hW' := hW
  obtain ⟨p, q, hA0, hV, rfl, hfz, hnd⟩ := hW
  have hA : DataW.TrodAll enc prog W 0 (fun _ => true) true f10.params.toList args.toList ds p := hA0
  rw [params10] at hA hval
  obtain ⟨v0, v1, v2, e0, e1, e2, p0, p1, p2, rfl, rfl, rfl, h0, h1, h2⟩ := trodAll_three hA
  obtain ⟨rfl, rfl⟩ := trodVars_none hV
  have hlaid := of_laid hL
  obtain ⟨y00, y10, yn0, en0, lx0, d0, n0, pv0, ev0, mv0, rfl, a0, b0, c0⟩ := play_arg (hval 0 24 v0 rfl rfl) h0
  obtain ⟨y01, y11, yn1, en1, lx1, d1, n1, pv1, ev1, mv1, rfl, a1, b1, c1⟩ := play_arg (hval 1 24 v1 rfl rfl) h1
  obtain ⟨x2, rfl⟩ := int_arg (hval 2 3 v2 rfl rfl)
  have hrun : Calls prog 10 #[.agg #[pv0, ev0, .bool (decide (lx0 ≠ 0)), mv0], .agg #[pv1, ev1, .bool (decide (lx1 ≠ 0)), mv1], .int .i64 x2] W fun e w' => e = .returned (.bool true) ∧ Below W.heap.size W w' := loose_law hlaid a0 b0 c0 (moves_bn c0) a1 b1 c1 (moves_bn c1)
  refine hrun.mono fun e W' ⟨he, hB⟩ => ?_
  subst he
  have hlt : ∀ x ∈ p0 ++ p1 ++ p2, x.block < W.heap.size := fun x hx => by
    have := hW'.lt x (by simpa using hx)
    exact this
  refine ⟨_, rfl, _, _, _, [], p0 ++ (p1 ++ p2), [], hW', trodAll_mk1 (shut_bool underlying4 true), ?_, rfl, hB.frame _, fun h => by cases h⟩
  exact trodAll_mk3 (Below.trod laidOut (by kernel_rfl) (of_decide_eq_true (by kernel_rfl)) h0 hB fun x hx => hlt x (by simp [hx]))
    (Below.trod laidOut (by kernel_rfl) (of_decide_eq_true (by kernel_rfl)) h1 hB fun x hx => hlt x (by simp [hx]))
    (Below.trod laidOut (by kernel_rfl) (of_decide_eq_true (by kernel_rfl)) h2 hB fun x hx => hlt x (by simp [hx]))

theorem f10_named : checked.prog.funcNamed Rows.playLooseRow.func = some 10 := by kernel_rfl
theorem f10_facts : joinedFacts checked.prog 10 f10 Rows.playLooseSpec Rows.playLooseRow = true := by kernel_rfl
theorem f10_inst : f10.isInstance checked.prog Rows.playLooseRow.origin Rows.playLooseRow.targs := of_decide_eq_true (by kernel_rfl)
theorem f10_wrap : f10.isWrapper checked.prog Rows.playLooseRow.wrapper Rows.playLooseRow.mainSum := by
  unfold Func.isWrapper; first | (rw [if_pos (by decide +kernel)]; kernel_rfl) | (rw [if_neg (by decide +kernel)]; exact ⟨rfl, rfl⟩)

theorem loose_holds : Rows.PlayLooseSaid :=
  OpenClaim.holds_of_wide 10 f10 rfl rfl rfl rfl rfl rfl rfl ⟨rfl, rfl, rfl, rfl, rfl⟩ rfl rfl rfl rfl rfl f10_named func10 f10_facts f10_inst f10_wrap
    (fun os started H enc _ => loose_lifted os started H enc)
end Go.Proofs.Tryz
