/- The reference's plain touches and moves that stay, by the kit's walk. The reference's sort of moves, by the kit's walk. -/
import Derived.Test.YthlmjjdlmidnlaaGreatDoorArWh
import Derived.Test.YthlmjjdlmidnlaaGreatDoorArVt
import Derived.Test.YthlmjjdlmidnlaaGreatDoorArWe
import Derived.Test.YthlmjjdlmidnlaaGreatDoorAsC
namespace Go.Proofs.Tryz
open Go Go.Am Go.RowKit Go.Dr
set_option maxRecDepth 100000

theorem runHasW : runHas [98, 97, 115, 112, 107, 116, 111] = true := by kernel_rfl
theorem hasB97 : f97.body.isSome = true := by kernel_rfl
theorem fn97 : cx.fn 97 = some f97 := by kernel_rfl
theorem hasW_w (x : Int) (w : World) (h : Laid w) : Calls prog 97 #[.string (strS [98, 97, 115, 112, 107, 116, 111]), .int .u8 x] w fun e w' => e = .returned (.bool (decide (x ∈ ([98, 97, 115, 112, 107, 116, 111] : List Int)))) ∧ Below w.heap.size w w' := by
  obtain ⟨c, hc⟩ := Option.isSome_iff_exists.1 hasB97
  have := run_B (vs := [x]) (fun _ => tokBase _ _ _ _) runHasW h asN (args' := #[.string (strS [98, 97, 115, 112, 107, 116, 111]), .int .u8 x]) ⟨rfl, rfl, trivial⟩
  rw [hasD_ev] at this
  refine (CallRet.calls fn97 hc this).mono ?_
  rintro e w' ⟨v, rfl, rfl, hk⟩
  refine ⟨?_, belowOf hk⟩
  congr 2
  simp only [hasI, List.map_cons, List.map_nil]
  split <;> rename_i q
  · have : x ∈ ([98, 97, 115, 112, 107, 116, 111] : List Int) := q
    simp [this]
  · have : ¬ x ∈ ([98, 97, 115, 112, 107, 116, 111] : List Int) := q
    simp [this]

/-- IsWay of a safe move. -/
theorem isWay_w {s : ByteArray} {y : Int → Int} {so sn : Int} (hs : IsStr (.string s) y so sn) (w : World) (h : Laid w) : Calls prog 81 #[.string s, .bool false] w fun e w' => e = .returned (.bool (decide (sn = 1 ∧ y (so + 0) ∈ ([98, 97, 115, 112, 107, 116, 111] : List Int)))) ∧ Below w.heap.size w w' := by
  have hsz := str_size hs
  obtain ⟨l, e, h1, h2⟩ := hs
  by_cases hn : sn = 1
  · subst hn
    match l, h1, h2, e with
    | [], h1, _, _ => simp at h1
    | c :: c2 :: r, h1, _, _ => simp only [List.length_cons] at h1; omega
    | [c], h1, h2, e =>
      cases e
      have hc := h2 0 c rfl
      have e0 : ((0 : Nat) : Int) = 0 := rfl
      rw [e0] at hc
      have cH := hasW_w (c.toNat : Int) w h
      rw [← hc]
      obtain ⟨r, hr⟩ : ∃ r, decide ((1 : Int) = 1 ∧ (c.toNat : Int) ∈ ([98, 97, 115, 112, 107, 116, 111] : List Int)) = r := ⟨_, rfl⟩
      have hr2 : decide ((c.toNat : Int) ∈ ([98, 97, 115, 112, 107, 116, 111] : List Int)) = r := by rw [← hr]; simp
      rw [hr2] at cH
      rw [hr]
      clear hr hr2 hc h2 h1 e0 hsz
      go_enter func81, ntmps81
      go_wp2_with fail
      go_at_call 97
      refine cH.mono ?_
      rintro e w2 ⟨rfl, hk2⟩
      go_wp2
      go_ret
      exact ⟨rfl, hk2⟩
  · have e1 : decide (sn = 1 ∧ y (so + 0) ∈ ([98, 97, 115, 112, 107, 116, 111] : List Int)) = false := by simp [hn]
    rw [e1]
    have hne : (s.size : Int) ≠ 1 := by omega
    clear e1 hsz e h1 h2
    go_enter func81, ntmps81
    go_wp2
    go_ret
    exact ⟨rfl, Below.refl _ _⟩

theorem staysR_w {c : M5} {m : MvD} {w0 : World} (hm : M5Ok w0 c m) (w : World) (hL : Laid w) : Calls prog 106 #[.agg #[.int .i64 c.f1, .int .i64 c.f2, .bool c.xb, .string c.s, .slice c.a c.k c.c]] w fun e w' => e = .returned (.bool (stayD m)) ∧ Below w.heap.size w w' := by
  obtain ⟨f1, f2, xb, s, a, k, c⟩ := c
  obtain ⟨h1, h2, h3, h4, -⟩ := hm
  dsimp only at h1 h2 h3 h4 ⊢
  have hB : Below w.heap.size w (w.alloc (.cells #[.int .i64 f1, .int .i64 f2, .bool xb, .string s, .slice a k c] 27)) := (Below.refl _ _).alloc (Nat.le_refl _) _
  have cW := isWay_w h4 _ (hL.below hB)
  have hS : stayD m = (!xb && decide (f1 = f2) && decide (1 ≤ f1) && decide (f1 ≤ 3) && decide (m.sn = 1 ∧ m.y (m.so + 0) ∈ letL)) := by
    unfold stayD
    rw [h1, h2, h3]
    by_cases hx : m.x = 0 <;> simp [hx]
  have hB98 : (s.toList == [98]) = decide (m.sn = 1 ∧ m.y (m.so + 0) = 98) := by
    have h := isLet_iff h4 (l := 98) (by decide)
    have e98 : (Utf8.encode 98).toList = [98] := by rw [Lib.toList_data]; exact enc_small 98 (by decide)
    unfold isLet at h
    rw [e98] at h
    exact h
  obtain ⟨r, hr⟩ : ∃ r, decide (m.sn = 1 ∧ m.y (m.so + 0) ∈ ([98, 97, 115, 112, 107, 116, 111] : List Int)) = r := ⟨_, rfl⟩
  obtain ⟨q, hq⟩ : ∃ q, (s.toList == [98]) = q := ⟨_, rfl⟩
  have hl : decide (m.sn = 1 ∧ m.y (m.so + 0) ∈ letL) = (r && !q) := by
    rw [← hr, ← hq, hB98]
    generalize m.y (m.so + 0) = z
    by_cases hs1 : m.sn = 1
    · by_cases h98 : z = 98
      · simp [hs1, h98, letL]
      · simp [hs1, h98, letL]
    · simp [hs1]
  rw [hS, hl]
  rw [hr] at cW
  clear hS hl hr hB98 h1 h2 h3 h4 hL
  go_enter func106, ntmps106
  cases xb with
  | true =>
    go_wp2
    go_ret
    exact ⟨rfl, hB⟩
  | false =>
    by_cases k1 : f1 = f2
    case neg =>
      have k1' : f2 ≠ f1 := fun e => k1 e.symm
      go_wp2
      go_ret
      exact ⟨by simp [k1], hB⟩
    subst k1
    by_cases k2 : 1 ≤ f1
    case neg =>
      go_wp2
      go_ret
      exact ⟨by simp; intros; omega, hB⟩
    by_cases k3 : f1 ≤ 3
    case neg =>
      go_wp2
      go_ret
      exact ⟨by simp; intros; omega, hB⟩
    cases r with
    | false =>
      go_wp2_with fail
      go_at_call 81
      refine cW.mono ?_
      rintro e w2 ⟨rfl, hk2⟩
      go_wp2
      go_ret
      exact ⟨by simp, hB.trans (hk2.mono (by simp))⟩
    | true =>
      go_wp2_with fail
      go_at_call 81
      refine cW.mono ?_
      rintro e w2 ⟨rfl, hk2⟩
      have hx2 := (at_new _ _ _).below hk2 (at_new _ _ _).lt
      obtain ⟨⟨y0, y1, y2, y3, y4⟩, -⟩ := box5 hx2
      go_wp2
      go_ret
      exact ⟨by simp, hB.trans (hk2.mono (by simp))⟩

theorem arr_get {t : Int → Int} {o : Int} {m j : Nat} (h : j < m) : (intsL t o m).toArray[j]! = t (o + (j : Int)) := by
  rw [getElem!_pos _ _ (by simpa [length_intsL] using h)]
  have := intsL_get (t := t) (o := o) h
  rw [List.getElem?_eq_some_iff] at this
  obtain ⟨h1, h2⟩ := this
  simpa using h2
set_option maxHeartbeats 1600000 in
theorem plain_w {w : World} {v : Value} {t : Int → Int} {o n : Int} (h : IsInts w v t o n) (hn : n ≤ 1000000) :
    Calls prog 107 #[v] w fun e w' => ∃ v', e = .returned v' ∧ w'.ownsRow w.heap.size 3 1 v' (Lib.compact (intsL t o n.toNat)).length (vsOf (Lib.compact (intsL t o n.toNat))) ∧ Below w.heap.size w w' := by
  obtain ⟨ad, m, c, rfl, hmc, rfl, hrow⟩ := h
  obtain ⟨i0, hi0, hz0, hz1, hz2⟩ := info_parts info3
  rw [Int.toNat_natCast]
  obtain ⟨K, hK⟩ : ∃ K, K = fun i => Lib.compactUpTo (intsL t o m).toArray i := ⟨_, rfl⟩
  have HE : Hid (Lib.compact (intsL t o m) = K m) := Lib.hid (by rw [hK]; unfold Lib.compact; rw [length_intsL])
  have H0 : K 0 = [] := by rw [hK]; rfl
  have HS : Hid (∀ i, i < m → K (i + 1) = K i ++ (if i = 0 ∨ t (o + (i : Int)) ≠ t (o + ((i - 1 : Nat) : Int)) then [t (o + (i : Int))] else [])) := Lib.hid fun i hi => by
    rw [hK]
    dsimp only
    rw [Lib.compactUpTo_succ, Lib.keeps, arr_get hi, arr_get (by omega)]
    simp only [decide_eq_true_eq]
  have HL : Hid (∀ i, (K i).length ≤ i) := Lib.hid fun i => by
    rw [hK]
    dsimp only
    unfold Lib.compactUpTo
    rw [List.length_map]
    exact Nat.le_trans (List.length_filter_le _ _) (by simp)
  rw [HE.out]
  clear hK HE
  go_enter func107, ntmps107
  go_wp2
  go_loopw [3, 4] (fun r s wr => ∃ (i : Nat) (v : Value), i ≤ m ∧ s = .int .i64 i ∧ v = r ∧ wr.ownsRow w.heap.size 3 1 v (K i).length (vsOf (K i)) ∧ Below w.heap.size w wr) (fun _ s _ => m - (numOf' s).toNat)
  case atStart => exact ⟨0, _, Nat.zero_le _, rfl, rfl, by rw [H0]; exact World.ownsRow_nil _ _ _ _, Below.refl _ _⟩
  case round =>
    obtain ⟨i, v, hi, rfl, rfl, hown, hbel⟩ := hrel
    by_cases hin : i < m
    · obtain ⟨b, off, rfl, hM⟩ := hrow (by omega)
      have e1 : wr.cell? ⟨b, off + i, none⟩ = some (.int .i64 (t (o + (i : Int)))) := (hbel.cell (cell_under (hM i hin))).trans (hM i hin)
      have eK := HS.out i hin
      have hlen := HL.out i
      cases i with
      | zero =>
        rw [if_pos (.inl rfl)] at eK
        obtain ⟨z, hz⟩ : ∃ z, t (o + ((0 : Nat) : Int)) = z := ⟨_, rfl⟩
        rw [hz] at e1 eK
        have hbD := hbel.drew
        have hownD := hown.drew
        have e1D : wr.drew.cell? ⟨b, off + 0, none⟩ = some (.int .i64 z) := e1
        rw [Nat.add_zero] at e1 e1D
        clear hrow hM hz hown hbel
        go_wp2_with fail
        go_region
        clear e1
        generalize wr.drew = W at e1D hownD hbD ⊢
        go_wp2_with (first
          | (at_builtin; refine wpList_append_own _ rfl _ _ 25 rfl w.heap.size 3 i0 (.int .i64 0) 1 8 underlying25 hi0 hz0 hz1 hz2 rfl (by decide) _ _ _ rfl (hownD.alloc _) ⟨W.heap.size, 0, none⟩ 1 1 [.int .i64 z] rfl rfl ?c1 ?c2 ?c3 ?c4 ?c5 ?_)
          | go_in)
        case c1 =>
          intro j u hj
          match j, hj with
          | 0, hj => simp at hj; subst hj; simp [Addr.add]
        case c2 => intro u hu; simp at hu; subst hu; rfl
        case c3 => unfold maxLen; omega
        case c4 => omega
        case c5 => have := hbD.size; simp; omega
        intro v' w3 hown3 hgrow _
        have hb3 : Below w.heap.size w w3 := (hbD.alloc hbD.size _).grown hgrow (by have := hbD.size; simp at this ⊢; omega) (fun q hq => by have := (hownD.lt q hq).1; omega)
        have ho3 : w3.ownsRow w.heap.size 3 1 v' (K (0 + 1)).length (vsOf (K (0 + 1))) := by
          rw [eK, H0]; simpa [vsOf, H0] using hown3
        clear hown3 hgrow hownD eK
        go_wp2
        go_roundw
        case rel => exact ⟨0 + 1, _, by omega, by go_num, rfl, ho3, hb3⟩
        case measure => simp [numOf'] <;> omega
      | succ i =>
        have e2 : wr.cell? ⟨b, off + i, none⟩ = some (.int .i64 (t (o + (i : Int)))) := (hbel.cell (cell_under (hM i (by omega)))).trans (hM i (by omega))
        rw [Nat.add_sub_cancel] at eK
        obtain ⟨z, hz⟩ : ∃ z, t (o + ((i + 1 : Nat) : Int)) = z := ⟨_, rfl⟩
        obtain ⟨z', hz'⟩ : ∃ z, t (o + (i : Int)) = z := ⟨_, rfl⟩
        rw [hz] at e1 eK
        rw [hz'] at e2 eK
        obtain ⟨p, hp⟩ : ∃ p, p = i + 1 := ⟨_, rfl⟩
        have hpm : p < m := by omega
        have hpz : ¬ p = 0 := by omega
        have i4 : IntKind.i64.wrap ((p : Int) - 1) = (i : Int) := by rw [IntWalk.i64_in _ (by omega)]; omega
        have i5 : (0 : Int) ≤ (i : Int) := by omega
        have i6 : (i : Int) < (m : Int) := by omega
        rw [← hp] at e1 eK hlen hown ⊢
        clear hp hi hin
        clear hrow hM hz hz'
        by_cases hzz : z = z'
        · rw [if_neg (by simp [hzz, hpz]), List.append_nil] at eK
          subst hzz
          have ho3 : wr.ownsRow w.heap.size 3 1 v (K (p + 1)).length (vsOf (K (p + 1))) := by rw [eK]; exact hown
          clear hown eK
          go_wp2_with fail
          go_quiet (fail)
          go_wp2
          go_roundw
          case rel => exact ⟨p + 1, _, by omega, by go_num, rfl, ho3, below_drewN hbel _⟩
          case measure => simp [numOf'] <;> omega
        · rw [if_pos (.inr hzz)] at eK
          go_wp2_with fail
          go_quiet (fail)
          have hownD : (wr.drewN nq).ownsRow w.heap.size 3 1 v (K p).length (vsOf (K p)) := hown
          have hbD := below_drewN hbel nq
          have e1D : (wr.drewN nq).cell? ⟨b, off + p, none⟩ = some (.int .i64 z) := e1
          clear e1 e2 hown hbel
          generalize wr.drewN nq = W at e1D hownD hbD ⊢
          have hne : (z != z') = true := by simp [hzz]
          have hpe : ((p : Int) == 0) = false := by simp [hpz]
          go_wp2_with (first
            | (at_builtin; refine wpList_append_own _ rfl _ _ 25 rfl w.heap.size 3 i0 (.int .i64 0) 1 8 underlying25 hi0 hz0 hz1 hz2 rfl (by decide) _ _ _ rfl (hownD.alloc _) ⟨W.heap.size, 0, none⟩ 1 1 [.int .i64 z] rfl rfl ?c1 ?c2 ?c3 ?c4 ?c5 ?_)
            | go_in)
          case c1 =>
            intro j u hj
            match j, hj with
            | 0, hj => simp at hj; subst hj; simp [Addr.add]
          case c2 => intro u hu; simp at hu; subst hu; rfl
          case c3 => unfold maxLen; omega
          case c4 => omega
          case c5 => have := hbD.size; simp; omega
          intro v' w3 hown3 hgrow _
          have hb3 : Below w.heap.size w w3 := (hbD.alloc hbD.size _).grown hgrow (by have := hbD.size; simp at this ⊢; omega) (fun q hq => by have := (hownD.lt q hq).1; omega)
          have ho3 : w3.ownsRow w.heap.size 3 1 v' (K (p + 1)).length (vsOf (K (p + 1))) := by
            rw [eK]; simpa [vsOf] using hown3
          clear hown3 hgrow hownD eK
          go_wp2
          go_roundw
          case rel => exact ⟨p + 1, _, by omega, by go_num, rfl, ho3, hb3⟩
          case measure => simp [numOf'] <;> omega
          case roundEnd => exact absurd (‹((p : Int) == 0) = false ∧ (z != z') = false›).2 (by rw [hne]; decide)
    · obtain rfl : i = m := by omega
      clear hrow
      go_wp2
      go_ret
      exact ⟨_, rfl, hown, hbel⟩
end Go.Proofs.Tryz

namespace Go.Proofs.Tryz
open Go Go.Am Go.RowKit Go.Dr
set_option maxRecDepth 100000

/-- What a sort of a play's moves leaves. -/
def SortedW (w0 w : World) (base : Nat) (v : Value) (d : Nat → MvD) (n : Nat) : Prop :=
  ∃ (f : Nat → M5) (ys : List Nat), ys.Perm (List.range n) ∧ ys.Pairwise (fun i j => (d j).fr ≤ (d i).fr) ∧ (∀ i, i < n → M5Ok w0 (f i) (d i)) ∧ w.ownsRow base 27 5 v n (flat (ys.map f))

set_option maxHeartbeats 3200000 in
theorem sortedR_w {w : World} {ad : Option Addr} {n c : Nat} {d : Nat → MvD} (hm : IsMoves w (.slice ad n c) d n) (hn : n ≤ 1000) :
    Calls prog 105 #[.slice ad n c] w fun e w' => (∃ v, e = .returned v ∧ SortedW w w' w.heap.size v d n) ∧ Below w.heap.size w w' := by
  obtain ⟨a1, c1, e1, hnc, hM0⟩ := hm
  simp only [Value.slice.injEq, true_and] at e1
  obtain ⟨rfl, rfl⟩ := e1
  obtain ⟨f, hf⟩ : ∃ f : Nat → M5, (∀ i, i < n → M5Ok w (f i) (d i)) ∧ (n ≠ 0 → ∃ b off, ad = some ⟨b, off, none⟩ ∧ ∀ j u, (flat ((List.range n).map f))[j]? = some u → w.cell? ⟨b, off + j, none⟩ = some u) := by
    by_cases h0 : n = 0
    · subst h0
      exact ⟨fun _ => ⟨0, 0, false, ⟨#[]⟩, none, 0, 0⟩, fun i hi => absurd hi (Nat.not_lt_zero _), fun q => absurd rfl q⟩
    · obtain ⟨b, off, rfl, hM⟩ := hM0 h0
      obtain ⟨f, hf⟩ := m5_of hM
      exact ⟨f, fun i hi => (hf i hi).2, fun _ => ⟨b, off, rfl, src_of fun i hi => (hf i hi).1⟩⟩
  obtain ⟨hok, hsrc⟩ := hf
  have HOK : Hid (∀ i, i < n → M5Ok w (f i) (d i)) := Lib.hid hok
  obtain ⟨l0, hl0⟩ : ∃ l0, l0 = (List.range n).map f := ⟨_, rfl⟩
  rw [← hl0] at hsrc
  have hlen0 : l0.length = n := by rw [hl0]; simp
  have HL0 : Hid (l0 = (List.range n).map f) := Lib.hid hl0
  have hsrc1 : n ≠ 0 → ∃ b off, ad = some ⟨b, off, none⟩ ∧ ∀ j u, (flat l0)[j]? = some u → (w.alloc (.cells #[] 27)).cell? ⟨b, off + j, none⟩ = some u := fun q => by
    obtain ⟨b, off, e, h⟩ := hsrc q
    refine ⟨b, off, e, fun j u hj => ?_⟩
    have := h j u hj
    rw [World.cell?_alloc_past _ _ _ (cell_under this)]; exact this
  have hown0 : (w.alloc (.cells #[] 27)).ownsRow w.heap.size 27 5 (.slice (some ⟨w.heap.size, 0, none⟩) 0 0) 0 [] := by
    have := World.ownsRow_lit (base := w.heap.size) (e := 27) (size := 5) w #[] 0 (Nat.le_refl _) (Nat.zero_le _) rfl
    simpa using this
  clear hM0 hok hl0 hsrc hnc
  go_enter func105, ntmps105
  go_wp2_with (first
    | (at_builtin; refine wpList_append0M _ rfl (.tmp 6) (.tmp 7) rfl w.heap.size w.heap.size rfl hown0 ad n c l0 hlen0 rfl hsrc1 (by omega) (by simp) ?_)
    | go_in)
  intro v w1 hown1 hgr
  have hb1 : Below w.heap.size w w1 := ((Below.refl _ _).alloc (Nat.le_refl _) _).grown hgr (by simp) (fun q hq => by cases hq; exact Nat.le_refl _)
  clear hgr hown0 hsrc1
  obtain ⟨a1, k1, c1, rfl⟩ := owns_slice hown1
  by_cases h0 : n = 0
  · subst h0
    have e0 : l0 = [] := List.length_eq_zero_iff.1 hlen0
    have hk1 : k1 = 0 := by
      rcases hown1.2 with ⟨e, _⟩ | ⟨g, cap, cur, e, _⟩
      · simp only [Value.slice.injEq] at e; exact e.2.1
      · simp only [Value.slice.injEq] at e; exact e.2.1
    subst hk1
    subst e0
    go_wp2
    refine wp_loop_rounds 1 ?_
    rw [rounds_succ]
    go_wp2
    go_ret
    exact ⟨⟨_, rfl, f, [], List.Perm.refl _, List.Pairwise.nil, fun i hi => absurd hi (Nat.not_lt_zero _), hown1⟩, hb1⟩
  · obtain ⟨g, e1⟩ : ∃ g, a1 = some ⟨g, 0, none⟩ ∧ k1 = n := by
      rcases hown1.2 with ⟨e, hn0⟩ | ⟨g, cap, cur, e, _⟩
      · exact absurd hn0 h0
      · simp only [Value.slice.injEq] at e; exact ⟨g, e.1, e.2.1⟩
    obtain ⟨rfl, rfl⟩ := e1
    have hrow1 : RowM w1 w.heap.size g k1 c1 l0 := hown1
    clear hown1 hlen0
    go_wp2
    go_loopw [4, 5] (fun z _ wr => ∃ (i : Nat) (l' : List M5), z = .int .i64 i ∧ 1 ≤ i ∧ (i ≤ k1 ∨ i = 1) ∧ l'.Perm l0 ∧ Desc l' i ∧ RowM wr w.heap.size g k1 c1 l' ∧ Below w.heap.size w wr) (fun z _ _ => k1 - (numOf' z).toNat)
    case atStart => exact ⟨1, l0, rfl, Nat.le_refl _, .inr rfl, List.Perm.refl _, fun p q h1 h2 => by omega, hrow1, hb1⟩
    case round =>
      clear hrow1 hb1
      obtain ⟨i, l', rfl, hi1, hin, hperm, hdesc, hrow, hbel⟩ := hrel
      have hnc := hrow.len
      by_cases hlt : i < k1
      · go_wp2
        go_loopw [5] (fun z wr => ∃ (j : Nat) (l2 : List M5), z = .int .i64 j ∧ j ≤ i ∧ l2.Perm l0 ∧ Ins l2 j i ∧ RowM wr w.heap.size g k1 c1 l2 ∧ Below w.heap.size w wr) (fun z _ => (numOf' z).toNat)
        case atStart => exact ⟨i, l', rfl, Nat.le_refl _, hperm, desc_ins hdesc, hrow, hbel⟩
        case round =>
          clear hrow hbel hperm hdesc hnc
          obtain ⟨j, l2, rfl, hji, hperm, hins, hrow, hbel⟩ := hrel
          have hlen := hrow.len
          cases j with
          | zero =>
            have hd : decide ((0 : Int) < ((0 : Nat) : Int)) = false := rfl
            have hdesc := ins_desc hins (.inl rfl)
            have hrow2 := hrow.drew
            have hbel2 := hbel.drew
            go_wp2_with fail
            go_region
            go_wp2
            go_roundw
            case rel => exact ⟨i + 1, l2, by go_num, by omega, .inl (by omega), hperm, hdesc, hrow2, hbel2⟩
            case measure => simp [numOf'] <;> omega
          | succ j =>
            obtain ⟨a, ha⟩ : ∃ a, l2[j]? = some a := ⟨_, List.getElem?_eq_getElem (by omega)⟩
            obtain ⟨b, hb2⟩ : ∃ b, l2[j + 1]? = some b := ⟨_, List.getElem?_eq_getElem (by omega)⟩
            obtain ⟨⟨p0, p1, p2, p3, p4⟩, -⟩ := hrow.cells ha
            obtain ⟨⟨q0, q1, q2, q3, q4⟩, -⟩ := hrow.cells hb2
            have hj1 : j + 1 < k1 := by omega
            have hd : decide ((0 : Int) < ((j + 1 : Nat) : Int)) = true := by simp
            have hka : key l2 j = a.f1 := by unfold key; rw [ha]; rfl
            have hkb : key l2 (j + 1) = b.f1 := by unfold key; rw [hb2]; rfl
            by_cases hab : a.f1 < b.f1
            · have HI : Hid (Ins (swapM l2 (j + 1) a b) j i) := Lib.hid (by have := ins_swap (j := j + 1) (by omega) hji (by simpa using ha) hb2 hins (by simpa [hka, hkb] using hab); simpa using this)
              have HP : Hid ((swapM l2 (j + 1) a b).Perm l0) := Lib.hid ((perm_swapM (j := j + 1) (by omega) (by simpa using ha) hb2).trans hperm)
              clear hka hkb hins hperm
              go_wp2_with fail
              go_region
              have hrow2 := hrow.drew
              have hbel2 := hbel.drew
              clear hrow hbel p0 p1 p2 p3 p4 q0 q1 q2 q3 q4
              generalize wr.drew = W at hrow2 hbel2 ⊢
              obtain ⟨⟨p0, p1, p2, p3, p4⟩, fz⟩ := hrow2.cells ha
              obtain ⟨⟨q0, q1, q2, q3, q4⟩, -⟩ := hrow2.cells hb2
              have hs1 := hrow2.set (i := j + 1) hj1 a
              have ha1 : (l2.set (j + 1) a)[j]? = some a := by rw [List.getElem?_set, if_neg (by omega)]; exact ha
              have hs2 := hs1.set (i := j) (by omega) b
              have hsw : RowM _ w.heap.size g k1 c1 (swapM l2 (j + 1) a b) := hs2
              obtain ⟨⟨p0', p1', p2', p3', p4'⟩, fz'⟩ := hs1.cells ha1
              have f0 := fz ((j + 1) * 5)
              have f1 := fz ((j + 1) * 5 + 1)
              have f2 := fz ((j + 1) * 5 + 2)
              have f3 := fz ((j + 1) * 5 + 3)
              have f4 := fz ((j + 1) * 5 + 4)
              have g0 := fz' (j * 5)
              have g1 := fz' (j * 5 + 1)
              have g2 := fz' (j * 5 + 2)
              have g3 := fz' (j * 5 + 3)
              have g4 := fz' (j * 5 + 4)
              have hbs := (below_any5 (below_any5 hbel2 hrow2.lt.1 ((j + 1) * 5) ((j + 1) * 5 + 1) ((j + 1) * 5 + 2) ((j + 1) * 5 + 3) ((j + 1) * 5 + 4) (.int .i64 a.f1) (.int .i64 a.f2) (.bool a.xb) (.string a.s) (.slice a.a a.k a.c)) hrow2.lt.1 (j * 5) (j * 5 + 1) (j * 5 + 2) (j * 5 + 3) (j * 5 + 4) (.int .i64 b.f1) (.int .i64 b.f2) (.bool b.xb) (.string b.s) (.slice b.a b.k b.c)).drew
              clear fz fz' hs1 hs2 hlen hd hab
              go_wp2_with fail
              go_region
              go_wp2
              go_roundw
              case rel =>
                exact ⟨j, swapM l2 (j + 1) a b, by go_num, by omega, HP.out, HI.out, hsw.drew, hbs⟩
              case measure => simp [numOf'] <;> omega
            · have hdesc := ins_desc hins (.inr (by simpa [hka, hkb] using hab))
              have hrow2 := hrow.drew
              have hbel2 := hbel.drew
              clear hka hkb hins
              go_wp2_with fail
              go_region
              go_wp2
              go_roundw
              case rel => exact ⟨i + 1, l2, by go_num, by omega, .inl (by omega), hperm, hdesc, hrow2, hbel2⟩
              case measure => simp [numOf'] <;> omega
      · go_wp2
        have hni : k1 ≤ i := by omega
        go_ret
        refine ⟨⟨_, rfl, ?_⟩, hbel⟩
        have hp := hperm
        rw [HL0.out] at hp
        obtain ⟨ys, hys, e⟩ := perm_map_inv hp _ rfl
        refine ⟨f, ys, hys, desc_pair hys (fun i hi => (HOK.out i hi).1) ?_, HOK.out, ?_⟩
        · rw [← e]; exact fun p q h1 h2 => hdesc p q h1 (by omega)
        · rw [← e]; exact hrow
end Go.Proofs.Tryz
