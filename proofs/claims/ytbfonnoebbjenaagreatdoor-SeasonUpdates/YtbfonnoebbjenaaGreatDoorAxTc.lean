/- Lists of games checked, on both sides: by the kit's walk. The numbers of a list of totals checked by the season: by the kit's walk. An update checked by the reference (CheckUpdate): by the kit's walk. -/
import Derived.Test.YtbfonnoebbjenaaGreatDoorAxTb
import Derived.Test.YtbfonnoebbjenaaGreatDoorAxK
import Derived.Test.YtbfonnoebbjenaaGreatDoorAxR
import Derived.Test.YtbfonnoebbjenaaGreatDoorAxUa
import Derived.Test.YtbfonnoebbjenaaGreatDoorAxTe
namespace Go.Proofs.Tryz
open Go Go.Am Go.RowKit Go.Op
set_option maxRecDepth 100000

/-- The games from the place i on. -/
def gmsK (g : Nat → GmD) : Nat → Nat → Int
  | _, 0 => 0
  | i, k + 1 => if gmE (g i) = 0 then gmsK g (i + 1) k else gmE (g i)
/-- What the check of a list of games answers. -/
def gmsE (g : Nat → GmD) (n : Nat) : Int := if 64 < n then 5 else gmsK g 0 n
set_option maxHeartbeats 3200000 in
theorem gamesR_w {g : Nat → GmD} {n : Nat} {v : Value} {w : World} (h : IsGames w v g n) (hk : ∀ i, i < n → (g i).k ≤ 1000) :
    Calls prog 23 #[v] w fun e w' => e = .returned (.int .i64 (gmsE g n)) ∧ Below w.heap.size w w' := by
  have h0 := h
  obtain ⟨lv, hr, -⟩ := h0
  obtain ⟨ad, c, rfl, hnc⟩ := hr.slice
  clear hr
  obtain ⟨R, hR⟩ : ∃ R, gmsE g n = R := ⟨_, rfl⟩
  rw [hR]
  have HR : Hid (R = if 64 < n then 5 else gmsK g 0 n) := Lib.hid (by rw [← hR]; rfl)
  clear hR
  by_cases h64 : 64 < n
  · have hE2 : Hid (R = 5) := Lib.hid (HR.out.trans (if_pos h64))
    have h64' : (64 : Int) < (n : Int) := by omega
    clear HR
    go_enter func23, ntmps23
    go_wp2
    go_ret
    exact ⟨by rw [hE2.out]; try rfl, Below.refl _ _⟩
  · have h64' : (n : Int) ≤ 64 := by omega
    have hn64 : n ≤ 64 := by omega
    have HS : Hid (R = gmsK g 0 (n - 0)) := Lib.hid (HR.out.trans (if_neg h64))
    clear HR h64
    go_enter func23, ntmps23
    go_wp2_with fail
    go_loopw [3] (fun s wr => ∃ i : Nat, i ≤ n ∧ s = .int .i64 i ∧ Hid (R = gmsK g i (n - i)) ∧ Below w.heap.size w wr) (fun s _ => n - (numOf' s).toNat)
    case atStart => exact ⟨0, Nat.zero_le _, rfl, HS, Below.refl _ _⟩
    case round =>
      try clear HS
      obtain ⟨i, hi, rfl, hE, hb⟩ := hrel
      by_cases hin : i < n
      · obtain ⟨b, off, c1, a1, kc, e, -, hli, p0, p1, p2, p3, p4, p5, p6, p7⟩ := (h.below hb).at hin
        simp only [Value.slice.injEq, true_and] at e
        obtain ⟨rfl, rfl⟩ := e
        have hii : (i : Int) < (n : Int) := by omega
        have cG := gameR_w hli (Nat.le_trans (hk i hin) (by decide))
        have hs := hE.out
        rw [show n - i = (n - (i + 1)) + 1 by omega, gmsK] at hs
        obtain ⟨E, hEq⟩ : ∃ E, gmE (g i) = E := ⟨_, rfl⟩
        rw [hEq] at hs cG
        have HE2 := Lib.hid hs
        unfold GmD.val at cG
        clear hE hs hEq
        go_wp2_with fail
        go_at_call 57
        refine cG.mono ?_
        rintro e W6 ⟨rfl, hk6⟩
        have hb6 := hb.trans (hk6.mono hb.size)
        clear cG p0 p1 p2 p3 p4 p5 p6 p7 hli hk6 hb
        by_cases hE0 : E = 0
        · subst hE0
          have HE3 := Lib.hid (HE2.out.trans (if_pos rfl))
          clear HE2
          go_wp2_with fail
          go_roundw
          case rel => exact ⟨i + 1, by omega, by go_num, HE3, hb6⟩
          case measure => simp [numOf'] <;> omega
        · have hE0' : (E != 0) = true := by simpa using hE0
          have HR2 := Lib.hid (HE2.out.trans (if_neg hE0))
          clear HE2
          go_wp2_with fail
          go_ret
          exact ⟨by rw [HR2.out]; try rfl, hb6⟩
      · obtain rfl : i = n := by omega
        have hE2 : Hid (R = 0) := Lib.hid (by rw [hE.out, Nat.sub_self, gmsK])
        clear hE
        go_wp2_with fail
        go_ret
        exact ⟨by rw [hE2.out]; try rfl, hb⟩

/-! ### the season's -/
def errsL (g : Nat → GmD) (n : Nat) : List (List Value) := (List.range n).map fun j => [.int .i64 (gmE (g j))]
theorem errsL_snoc (g : Nat → GmD) (n : Nat) : errsL g (n + 1) = errsL g n ++ [[.int .i64 (gmE (g n))]] := by unfold errsL; rw [List.range_succ, List.map_append]; rfl
theorem errsL_len (g : Nat → GmD) (n : Nat) : (errsL g n).length = n := by simp [errsL]
theorem infoE : (prog.info? 26).map (fun i => (i.zero, i.size, i.bytes)) = some (some (.int .i64 0), 1, 8) := by kernel_rfl
theorem elE : ∃ i, ElT 198 26 1 i (.int .i64 0) 8 := by
  obtain ⟨i, hi, hz0, hz1, hz2⟩ := info_more infoE
  exact ⟨i, by kernel_rfl, hi, hz0, hz1, hz2, rfl, by decide, by decide⟩
theorem run_slice1 (w : World) (x : Int) : (Instr.buildSlice 198 1 #[(0, .int .i64 x)]).run prog w = .ok (.slice (some ⟨w.heap.size, 0, none⟩) 1 1) (w.alloc (.cells #[.int .i64 x] 26)) := by simp [go_sem]
theorem wpList_slice1 {ts e : TypeId} {v : Value} (hrun : ∀ w : World, (Instr.buildSlice ts 1 #[(0, v)]).run prog w = .ok (.slice (some ⟨w.heap.size, 0, none⟩) 1 1) (w.alloc (.cells #[v] e))) (w : World) {ops : Array Oper} {rest : List Oper} {o : Oper} {a : Act} {Q : Exit → Act → World → Prop} (hgd : o.guard = none) (x : Operand) (ho : o.op = .buildSlice ts 1 #[(0, x)])
    (hx : a.eval x = v) (h : wpList prog ops Q rest (a.put o.dst (.slice (some ⟨w.heap.size, 0, none⟩) 1 1)) (w.alloc (.cells #[v] e))) : wpList prog ops Q (o :: rest) a w := by
  refine wpList_plain hgd fun K' hK' => ?_
  unfold Oper.wp execOp
  simp only [ho, List.map_toArray, List.map_cons, List.map_nil, hx, Sem.run_bind, hrun, Result.andThen_ok, Sem.run_pure]
  exact hK' _ _ h
set_option maxHeartbeats 3200000 in
theorem mapG_w {g : Nat → GmD} {n : Nat} {v : Value} {w : World} (h : IsGames w v g n) (hn : n ≤ 1000) (hk : ∀ i, i < n → (g i).k ≤ 1000) :
    Calls prog 144 #[v, .func (.func 55) #[] #[]] w fun e w' => (∃ u, e = .returned u ∧ OwnRow w' w.heap.size 26 1 u (errsL g n)) ∧ Below w.heap.size w w' := by
  obtain ⟨iT, TT⟩ := elE
  have HT := Lib.hid TT
  clear TT
  have h0 := h
  obtain ⟨lv0, hr, -⟩ := h0
  obtain ⟨ad, c, rfl, hnc⟩ := hr.slice
  have hs0 : OwnRow w w.heap.size 26 1 (.slice none 0 0) (errsL g 0) := OwnRow.start _ _ _ _
  clear hr
  go_enter func144, ntmps144
  go_wp2_with fail
  go_loopw [5, 10] (fun t s wr => ∃ i : Nat, i ≤ n ∧ s = .int .i64 i ∧ OwnRow wr w.heap.size 26 1 t (errsL g i) ∧ Below w.heap.size w wr) (fun _ s _ => n - (numOf' s).toNat)
  case atStart => exact ⟨0, Nat.zero_le _, rfl, hs0, Below.refl _ _⟩
  case round =>
    clear hs0
    obtain ⟨i, hi, rfl, hl, hb⟩ := hrel
    by_cases hin : i < n
    · obtain ⟨b, off, c1, a1, kc, e, -, hli, p0, p1, p2, p3, p4, p5, p6, p7⟩ := (h.below hb).at hin
      simp only [Value.slice.injEq, true_and] at e
      obtain ⟨rfl, rfl⟩ := e
      have hii : (i : Int) < (n : Int) := by omega
      have hki := hk i hin
      have hbn : Below wr.heap.size wr (wr.alloc (.cells ((g i).arr (.slice a1 (g i).k kc)) 110)) := (Below.refl _ _).alloc (Nat.le_refl _) _
      have hy := at_new wr ((g i).arr (.slice a1 (g i).k kc)) 110
      obtain ⟨W5, hW5⟩ : ∃ W5, wr.alloc (.cells ((g i).arr (.slice a1 (g i).k kc)) 110) = W5 := ⟨_, rfl⟩
      rw [hW5] at hbn hy
      unfold GmD.arr at hW5 hy
      obtain ⟨⟨y0, y1, y2, y3, y4, y5, y6, y7⟩, -⟩ := box8 hy
      have cG := game_w (hli.below hbn) (Nat.le_trans hki (by decide))
      unfold GmD.val at cG
      have hl5 := hl.below hbn
      have hb5 := hb.trans (hbn.mono hb.size)
      have HH := Lib.hid h
      clear hy hl hb hbn h hli hk
      go_wp2_with fail
      try rw [hW5]
      try simp only [Array.append_empty, List.append_toArray, List.append_nil]
      refine cG.mono ?_
      rintro e W6 ⟨rfl, hk6⟩
      have hl6 := hl5.below hk6
      have hb6 := hb5.trans (hk6.mono hb5.size)
      obtain ⟨E, hE⟩ : ∃ E, gmE (g i) = E := ⟨_, rfl⟩
      have HS := Lib.hid (show errsL g (i + 1) = errsL g i ++ [[.int .i64 E]] by rw [errsL_snoc, hE])
      rw [hE]
      clear hE cG hl5 hb5 hk6 hW5 p0 p1 p2 p3 p4 p5 p6 p7 y0 y1 y2 y3 y4 y5 y6 y7
      go_wp2_with (first
        | (with_reducible refine haltR ?_)
        | fail)
      unfold Halt
      have hal := fun o => (Below.refl W6.heap.size W6).alloc (Nat.le_refl _) o
      refine wpList_slice1 (fun w => run_slice1 w E) _ rfl _ rfl rfl ?_
      refine wpList_appendR HT.out _ rfl _ _ rfl w.heap.size _ (errsL g i) _ rfl 1 rfl (hl6.below (hal _)) (by rw [errsL_len]; omega) [.int .i64 E] rfl (fun u hu => by rw [List.mem_singleton.1 hu]; rfl) ?hat ?c2 ?_
      case hat => exact at_new _ _ _
      case c2 => exact Nat.le_trans hb6.size (hal _).size
      intro a9 k9 c9 w9 hA
      have hl9 : OwnRow w9 w.heap.size 26 1 (.slice a9 k9 c9) (errsL g (i + 1)) := by rw [HS.out]; exact hA.row
      have hb9 := hA.below w (hb6.trans ((hal _).mono hb6.size)) (Nat.le_refl _)
      clear hA hl6 hb6 hal HS
      go_wp2_with fail
      go_roundw
      case rel => exact ⟨i + 1, by omega, by go_num, hl9, hb9⟩
      case measure => simp [numOf'] <;> omega
    · obtain rfl : i = n := by omega
      clear h hk
      go_wp2_with fail
      go_ret
      exact ⟨⟨_, rfl, hl⟩, hb⟩
theorem fstE_errs (g : Nat → GmD) : ∀ (k i : Nat), fstE ((List.range' i k).map fun j => gmE (g j)) = gmsK g i k
  | 0, i => rfl
  | k + 1, i => by
    rw [List.range'_succ, List.map_cons, gmsK, fstE, fstE_errs g k (i + 1)]
theorem first_nil (w : World) : Calls prog 88 #[.slice none 0 0] w fun e w' => e = .returned (.int .i64 0) ∧ w' = w := by
  go_enter func88, ntmps88
  go_wp2
  refine wp_loop_rounds 1 ?_
  rw [rounds_succ]
  go_wp2
  go_ret
  exact ⟨rfl, rfl⟩
theorem first_own {W : World} {base : Nat} {u : Value} {l : List Int} (h : OwnRow W base 26 1 u (l.map fun z => [.int .i64 z])) (hl : l.length ≤ 1000) : Calls prog 88 #[u] W fun e w' => e = .returned (.int .i64 (fstE l)) ∧ w' = W := by
  have hlen : (l.map fun z => [Value.int .i64 z]).length = l.length := List.length_map _
  rcases h.1.2 with ⟨rfl, h0⟩ | ⟨g, cap, cur, rfl, h1, h2, h3, h4⟩
  · have : l = [] := List.length_eq_zero_iff.1 (by rw [← hlen]; exact h0)
    subst this
    exact first_nil W
  · rw [hlen]
    refine first_w l g cap W hl fun j z hz => ?_
    have hr := h.row
    obtain ⟨b, off, c, e, -, p⟩ := hr.at (i := j) (by rw [hlen]; exact (List.getElem?_eq_some_iff.1 hz).1)
    simp only [Value.slice.injEq, Option.some.injEq, Addr.mk.injEq, and_true] at e
    obtain ⟨⟨rfl, rfl⟩, -, rfl⟩ := e
    have := p 0 (.int .i64 z) (by simp [hz])
    simpa using this
set_option maxHeartbeats 3200000 in
theorem games_w {g : Nat → GmD} {n : Nat} {v : Value} {w : World} (h : IsGames w v g n) (hk : ∀ i, i < n → (g i).k ≤ 1000) :
    Calls prog 89 #[v] w fun e w' => e = .returned (.int .i64 (gmsE g n)) ∧ Below w.heap.size w w' := by
  have h0 := h
  obtain ⟨lv, hr, -⟩ := h0
  obtain ⟨ad, c, rfl, hnc⟩ := hr.slice
  clear hr
  obtain ⟨R, hR⟩ : ∃ R, gmsE g n = R := ⟨_, rfl⟩
  rw [hR]
  have HR : Hid (R = if 64 < n then 5 else gmsK g 0 n) := Lib.hid (by rw [← hR]; rfl)
  clear hR
  by_cases h64 : 64 < n
  · have hE2 : Hid (R = 5) := Lib.hid (HR.out.trans (if_pos h64))
    have h64' : (64 : Int) < (n : Int) := by omega
    clear HR h hk
    go_enter func89, ntmps89
    go_wp2
    go_ret
    exact ⟨by rw [hE2.out]; try rfl, Below.refl _ _⟩
  · have h64' : (n : Int) ≤ 64 := by omega
    have hn64 : n ≤ 64 := by omega
    have HS : Hid (R = gmsK g 0 n) := Lib.hid (HR.out.trans (if_neg h64))
    have cM := mapG_w h (by omega) hk
    clear HR h64 h hk
    go_enter func89, ntmps89
    go_wp2_with fail
    go_at_call 144
    refine cM.mono ?_
    rintro e W6 ⟨⟨u, rfl, hu⟩, hb⟩
    have hu2 : OwnRow W6 w.heap.size 26 1 u (((List.range' 0 n).map fun j => gmE (g j)).map fun z => [.int .i64 z]) := by
      rw [List.map_map, ← List.range_eq_range']; exact hu
    have cF := first_own hu2 (by simp; omega)
    rw [fstE_errs, ← HS.out] at cF
    clear cM hu hu2 HS
    go_wp2_with fail
    go_at_call 88
    refine cF.mono ?_
    rintro e W7 ⟨rfl, rfl⟩
    go_wp2_with fail
    go_ret
    exact ⟨rfl, hb⟩
end Go.Proofs.Tryz

namespace Go.Proofs.Tryz
open Go Go.Am Go.RowKit Go.Op
set_option maxRecDepth 100000

set_option maxHeartbeats 3200000 in
theorem firstB_w (es : List Int) (b c : Nat) (w : World) (hl : es.length ≤ 100000) (hc : ∀ j z, es[j]? = some z → w.cell? ⟨b, j, none⟩ = some (.int .i64 z)) :
    Calls prog 88 #[.slice (some ⟨b, 0, none⟩) es.length c] w fun e w' => e = .returned (.int .i64 (fstE es)) ∧ w' = w := by
  have H0 : Hid (fstE es = fstE (es.drop 0)) := Lib.hid rfl
  obtain ⟨n, hn⟩ : ∃ n, es.length = n := ⟨_, rfl⟩
  have HL := Lib.hid hn
  rw [hn] at hl ⊢
  clear hn
  go_enter func88, ntmps88
  go_wp2_with fail
  go_loopw [7] (fun s wr => ∃ i : Nat, i ≤ n ∧ s = .int .i64 i ∧ Hid (fstE es = fstE (es.drop i)) ∧ wr = w) (fun s _ => n - (numOf' s).toNat)
  case atStart => exact ⟨0, Nat.zero_le _, rfl, H0, rfl⟩
  case round =>
    clear H0
    obtain ⟨i, hi, rfl, hE, rfl⟩ := hrel
    by_cases hin : i < n
    · obtain ⟨z, hz⟩ : ∃ z, es[i]? = some z := ⟨_, List.getElem?_eq_getElem (by rw [HL.out]; exact hin)⟩
      have ci := hc i z hz
      have hs := fst_drop hz
      have hii : (i : Int) < (n : Int) := by omega
      by_cases h0 : z = 0
      · subst h0
        have hE2 : Hid (fstE es = fstE (es.drop (i + 1))) := Lib.hid (by rw [hE.out, hs, if_pos rfl])
        clear hE hs hc hz
        go_wp2_with fail
        go_roundw
        case rel => exact ⟨i + 1, by omega, by go_num, hE2, by first | trivial | rfl⟩
        case measure => simp [numOf'] <;> omega
      · have hE2 : Hid (fstE es = z) := Lib.hid (by rw [hE.out, hs, if_neg h0])
        have h0' : (z != 0) = true := by simpa using h0
        clear hE hs hc hz
        go_wp2_with fail
        go_ret
        exact ⟨by rw [hE2.out]; try rfl, rfl⟩
    · obtain rfl : i = n := by omega
      have hE2 : Hid (fstE es = 0) := Lib.hid (by rw [hE.out, List.drop_of_length_le (by rw [HL.out]; exact Nat.le_refl _)]; rfl)
      clear hE hc HL
      go_wp2_with fail
      go_ret
      exact ⟨by rw [hE2.out]; try rfl, rfl⟩
theorem first_ownB {W : World} {base : Nat} {u : Value} {l : List Int} (h : OwnRow W base 26 1 u (l.map fun z => [.int .i64 z])) (hl : l.length ≤ 100000) : Calls prog 88 #[u] W fun e w' => e = .returned (.int .i64 (fstE l)) ∧ w' = W := by
  have hlen : (l.map fun z => [Value.int .i64 z]).length = l.length := List.length_map _
  rcases h.1.2 with ⟨rfl, h0⟩ | ⟨g, cap, cur, rfl, h1, h2, h3, h4⟩
  · have : l = [] := List.length_eq_zero_iff.1 (by rw [← hlen]; exact h0)
    subst this
    exact first_nil W
  · rw [hlen]
    refine firstB_w l g cap W hl fun j z hz => ?_
    have hr := h.row
    obtain ⟨b, off, c, e, -, p⟩ := hr.at (i := j) (by rw [hlen]; exact (List.getElem?_eq_some_iff.1 hz).1)
    simp only [Value.slice.injEq, Option.some.injEq, Addr.mk.injEq, and_true] at e
    obtain ⟨⟨rfl, rfl⟩, -, rfl⟩ := e
    have := p 0 (.int .i64 z) (by simp [hz])
    simpa using this
def errsT (l : List Tot) : List (List Value) := (l.map numE).map fun z => [.int .i64 z]
theorem errsT_snoc (l : List Tot) (t : Tot) : errsT (l ++ [t]) = errsT l ++ [[.int .i64 (numE t)]] := by simp [errsT]
theorem errsT_len (l : List Tot) : (errsT l).length = l.length := by simp [errsT]

set_option maxHeartbeats 3200000 in
theorem mapT_w {l : List Tot} {v : Value} {w : World} (h : IsTots w v l) (hn : l.length ≤ 50000) :
    Calls prog 131 #[v, .func (.func 132) #[] #[]] w fun e w' => (∃ u, e = .returned u ∧ OwnRow w' w.heap.size 26 1 u (errsT l)) ∧ Below w.heap.size w w' := by
  obtain ⟨iT, TT⟩ := elE
  have HT := Lib.hid TT
  clear TT
  have h0 := h
  obtain ⟨ad, c, rfl, hnc⟩ := h0.slice
  obtain ⟨n, hln⟩ : ∃ n, l.length = n := ⟨_, rfl⟩
  have HL := Lib.hid hln
  rw [hln] at hn hnc ⊢
  clear hln h0
  have hs0 : OwnRow w w.heap.size 26 1 (.slice none 0 0) (errsT (l.take 0)) := OwnRow.start _ _ _ _
  go_enter func131, ntmps131
  go_wp2_with fail
  go_loopw [5, 10] (fun t s wr => ∃ i : Nat, i ≤ n ∧ s = .int .i64 i ∧ OwnRow wr w.heap.size 26 1 t (errsT (l.take i)) ∧ Below w.heap.size w wr) (fun _ s _ => n - (numOf' s).toNat)
  case atStart => exact ⟨0, Nat.zero_le _, rfl, hs0, Below.refl _ _⟩
  case round =>
    clear hs0
    obtain ⟨i, hi, rfl, hl, hb⟩ := hrel
    by_cases hin : i < n
    · obtain ⟨t, ht⟩ : ∃ t, l[i]? = some t := ⟨_, List.getElem?_eq_getElem (by rw [HL.out]; exact hin)⟩
      obtain ⟨b, off, c1, e, -, p0, p1, pc⟩ := (h.below hb).at ht
      simp only [HL.out, Value.slice.injEq, true_and] at e
      obtain ⟨rfl, rfl⟩ := e
      have hc0 := pc 0 (by omega)
      have hc1 := pc 1 (by omega)
      have hc2 := pc 2 (by omega)
      have hc3 := pc 3 (by omega)
      have hc4 := pc 4 (by omega)
      have hc5 := pc 5 (by omega)
      have hc6 := pc 6 (by omega)
      have hc7 := pc 7 (by omega)
      have hc8 := pc 8 (by omega)
      have hc9 := pc 9 (by omega)
      have hc10 := pc 10 (by omega)
      have hc11 := pc 11 (by omega)
      simp only [Nat.reduceAdd] at hc0 hc1 hc2 hc3 hc4 hc5 hc6 hc7 hc8 hc9 hc10 hc11
      have hii : (i : Int) < (n : Int) := by omega
      have hbn : Below wr.heap.size wr (wr.alloc (.cells t.arr 66)) := (Below.refl _ _).alloc (Nat.le_refl _) _
      have hy := at_new wr t.arr 66
      obtain ⟨W5, hW5⟩ : ∃ W5, wr.alloc (.cells t.arr 66) = W5 := ⟨_, rfl⟩
      rw [hW5] at hbn hy
      unfold Tot.arr at hW5
      obtain ⟨z0, z1, z2, z3, z4, z5, z6, z7, z8, z9, z10, z11, z12, z13⟩ := box14t hy
      have cG := numbers_w t W5
      have hl5 := hl.below hbn
      have hb5 := hb.trans (hbn.mono hb.size)
      have HH := Lib.hid h
      have HTk := Lib.hid (take_snoc ht)
      clear hy hl hb hbn h pc ht
      go_wp2_with fail
      try rw [hW5]
      try simp only [Array.append_empty, List.append_toArray, List.append_nil]
      refine cG.mono ?_
      rintro e W6 ⟨rfl, hk6⟩
      have hl6 := hl5.below hk6
      have hb6 := hb5.trans (hk6.mono hb5.size)
      obtain ⟨E, hE⟩ : ∃ E, numE t = E := ⟨_, rfl⟩
      have HS := Lib.hid (show errsT (l.take (i + 1)) = errsT (l.take i) ++ [[.int .i64 E]] by rw [HTk.out, errsT_snoc, hE])
      have HLn := Lib.hid (show (errsT (l.take i)).length = i by rw [errsT_len, List.length_take, HL.out]; omega)
      rw [hE]
      clear hE cG hl5 hb5 hk6 hW5 p0 p1 hc0 hc1 hc2 hc3 hc4 hc5 hc6 hc7 hc8 hc9 hc10 hc11 z0 z1 z2 z3 z4 z5 z6 z7 z8 z9 z10 z11 z12 z13 HTk
      go_wp2_with (first
        | (with_reducible refine haltR ?_)
        | fail)
      unfold Halt
      have hal := fun o => (Below.refl W6.heap.size W6).alloc (Nat.le_refl _) o
      refine wpList_slice1 (fun w => run_slice1 w E) _ rfl _ rfl rfl ?_
      refine wpList_appendR HT.out _ rfl _ _ rfl w.heap.size _ (errsT (l.take i)) _ rfl 1 rfl (hl6.below (hal _)) (by rw [HLn.out]; omega) [.int .i64 E] rfl (fun u hu => by rw [List.mem_singleton.1 hu]; rfl) ?hat ?c2 ?_
      case hat => exact at_new _ _ _
      case c2 => exact Nat.le_trans hb6.size (hal _).size
      intro a9 k9 c9 w9 hA
      have hl9 : OwnRow w9 w.heap.size 26 1 (.slice a9 k9 c9) (errsT (l.take (i + 1))) := by rw [HS.out]; exact hA.row
      have hb9 := hA.below w (hb6.trans ((hal _).mono hb6.size)) (Nat.le_refl _)
      clear hA hl6 hb6 hal HS HLn
      go_wp2_with fail
      go_roundw
      case rel => exact ⟨i + 1, by omega, by go_num, hl9, hb9⟩
      case measure => simp [numOf'] <;> omega
    · obtain rfl : i = n := by omega
      have hl9 : OwnRow wr w.heap.size 26 1 u5 (errsT l) := by rw [List.take_of_length_le (by rw [HL.out]; exact Nat.le_refl _)] at hl; exact hl
      clear h hl
      go_wp2_with fail
      go_ret
      exact ⟨⟨_, rfl, hl9⟩, hb⟩
/-- What the first error of the numbers is. -/
theorem fst_nums : ∀ l : List Tot, fstE (l.map numE) = if ∀ t ∈ l, NumK t 12 then 0 else 3
  | [] => by simp [fstE]
  | t :: l => by
    have ih := fst_nums l
    rw [List.map_cons, fstE]
    unfold numE at *
    by_cases h : NumK t 12
    · rw [if_pos h, if_pos rfl, ih]
      by_cases h2 : ∀ t ∈ l, NumK t 12
      · rw [if_pos h2, if_pos (fun x hx => by rcases List.mem_cons.1 hx with rfl | hx; exact h; exact h2 x hx)]
      · rw [if_neg h2, if_neg (fun q => h2 fun x hx => q x (by simp [hx]))]
    · rw [if_neg h, if_neg (by decide), if_neg (fun q => h (q t (by simp)))]
end Go.Proofs.Tryz

namespace Go.Proofs.Tryz
open Go Go.Am Go.RowKit Go.Op
set_option maxRecDepth 100000

/-- What the check of what comes out answers. -/
def updE (L : List Tot) : Int := if 4096 < L.length then 5 else fstE (L.map numE)
theorem sumT_name {L : List Tot} : ∀ {ds : List Tot}, (∀ t ∈ L, isNm t.p = true) → (∀ t ∈ ds, isNm t.p = true) → ∀ t ∈ sumT L ds, isNm t.p = true
  | [], h, _ => h
  | d :: ds, h, hd => by
    show ∀ t ∈ sumT (insT 1 d L) ds, _
    refine sumT_name (fun t ht => ?_) fun t ht => hd t (by simp [ht])
    rcases insT_mem ht with q | q
    · exact h t q
    · rw [q]; exact hd d (by simp)
theorem clean_name {L : List Tot} (h : ∀ t ∈ L, isNm t.p = true) : ∀ t ∈ cleanT L, isNm t.p = true := fun t ht => h t (List.mem_filter.1 ht).1
theorem totE_named {t : Tot} (h : isNm t.p = true) : totE t = numE t := by unfold totE; rw [h]; rfl

set_option maxHeartbeats 3200000 in
theorem checkUpdR_w {l d : List Tot} {v vd : Value} {w : World} (hl : IsTots w v l) (hd : IsTots w vd d) (hn : l.length ≤ 5000) (hnd : d.length ≤ 100) (hs : SortT l) (hk : ∀ t ∈ l, isNm t.p = true ∧ NumK t 12) (hkd : ∀ t ∈ d, isNm t.p = true ∧ NumK t 12) :
    Calls prog 70 #[v, vd] w fun e w' => e = .returned (.int .i64 (updE (cleanT (sumT l d)))) ∧ Below w.heap.size w w' := by
  have cU := updateR_w hl hd hn hnd hs (fun t ht => (hk t ht).2) (fun t ht => (hkd t ht).2)
  have HNM := Lib.hid (clean_name (sumT_name (fun t ht => (hk t ht).1) (fun t ht => (hkd t ht).1)))
  have hlen : (cleanT (sumT l d)).length ≤ 5100 := Nat.le_trans (List.length_filter_le _ _) (Nat.le_trans sumT_len (by omega))
  obtain ⟨L, hL⟩ : ∃ L, cleanT (sumT l d) = L := ⟨_, rfl⟩
  rw [hL] at cU HNM hlen ⊢
  clear hL hl hd hs hk hkd hn hnd
  obtain ⟨n, hln⟩ : ∃ n, L.length = n := ⟨_, rfl⟩
  have HL := Lib.hid hln
  rw [hln] at hlen
  obtain ⟨R, hR⟩ : ∃ R, updE L = R := ⟨_, rfl⟩
  rw [hR]
  have HR : Hid (updE L = R) := Lib.hid hR
  clear hR hln
  go_enter func70, ntmps70
  go_wp2_with fail
  go_at_call 71
  refine cU.mono ?_
  rintro e W ⟨⟨u, rfl, hu⟩, hb⟩
  have hI := hu.is
  obtain ⟨ad, c, rfl, hnc⟩ := hI.slice
  rw [HL.out] at hnc
  have hI2 := Lib.hid hI
  rw [HL.out]
  rw [HL.out] at hI2
  clear hu hI cU
  by_cases hbig : 4096 < n
  · have hR5 : Hid (R = 5) := Lib.hid (by rw [← HR.out]; unfold updE; rw [HL.out, if_pos hbig])
    have hbi : (4096 : Int) < (n : Int) := by omega
    go_wp2_with fail
    go_ret
    exact ⟨by rw [hR5.out]; rfl, hb⟩
  have hbi : ¬ (4096 : Int) < (n : Int) := by omega
  have HS : Hid (R = fstE ((L.map numE).drop 0)) := Lib.hid (by rw [← HR.out]; unfold updE; rw [HL.out, if_neg hbig]; rfl)
  clear HR
  have hrw : Below W.heap.size W W := Below.refl _ _
  go_wp2_with fail
  go_loopw [6, 7] (fun s _ wr => ∃ i : Nat, i ≤ n ∧ s = .int .i64 i ∧ Hid (R = fstE ((L.map numE).drop i)) ∧ Below W.heap.size W wr) (fun s _ _ => n - (numOf' s).toNat)
  case atStart => exact ⟨0, Nat.zero_le _, rfl, HS, hrw⟩
  case round =>
    clear HS hrw
    obtain ⟨i, hi, rfl, hE, hbr⟩ := hrel
    by_cases hin : i < n
    · obtain ⟨t, ht⟩ : ∃ t, L[i]? = some t := ⟨_, List.getElem?_eq_getElem (by rw [HL.out]; exact hin)⟩
      have hI := hI2.out
      rw [← HL.out] at hI
      obtain ⟨b, off, c1, e, -, p0, p1, pc⟩ := (hI.below hbr).at ht
      simp only [HL.out, Value.slice.injEq, true_and] at e
      obtain ⟨rfl, rfl⟩ := e
      have hc0 := pc 0 (by omega)
      have hc1 := pc 1 (by omega)
      have hc2 := pc 2 (by omega)
      have hc3 := pc 3 (by omega)
      have hc4 := pc 4 (by omega)
      have hc5 := pc 5 (by omega)
      have hc6 := pc 6 (by omega)
      have hc7 := pc 7 (by omega)
      have hc8 := pc 8 (by omega)
      have hc9 := pc 9 (by omega)
      have hc10 := pc 10 (by omega)
      have hc11 := pc 11 (by omega)
      simp only [Nat.reduceAdd] at hc0 hc1 hc2 hc3 hc4 hc5 hc6 hc7 hc8 hc9 hc10 hc11
      have hii : (i : Int) < (n : Int) := by omega
      have cT := checkTotR_w t
      rw [totE_named (HNM.out t (List.mem_of_getElem? ht))] at cT
      have hs := fst_drop (es := L.map numE) (i := i) (z := numE t) (by rw [List.getElem?_map, ht]; rfl)
      obtain ⟨x, hx⟩ : ∃ x, numE t = x := ⟨_, rfl⟩
      rw [hx] at cT hs
      have HE := Lib.hid (hE.out.trans hs)
      clear pc hE hs hx ht hI
      go_wp2_with fail
      go_at_call 107
      refine (cT _).mono ?_
      rintro e W9 ⟨rfl, hk⟩
      have hbr2 := hbr.trans (hk.mono hbr.size)
      clear hk cT p0 p1 hc0 hc1 hc2 hc3 hc4 hc5 hc6 hc7 hc8 hc9 hc10 hc11 hbr
      by_cases hx0 : x = 0
      · have HE2 : Hid (R = fstE ((L.map numE).drop (i + 1))) := Lib.hid (by rw [HE.out, if_pos hx0])
        subst hx0
        clear HE
        go_wp2_with fail
        go_roundw
        case rel => exact ⟨i + 1, by omega, by go_num, HE2, hbr2⟩
        case measure => simp [numOf'] <;> omega
      · have HE2 : Hid (R = x) := Lib.hid (by rw [HE.out, if_neg hx0])
        have hx' : (x != 0) = true := by simpa using hx0
        have hbw := hb.trans (hbr2.mono hb.size)
        clear HE
        go_wp2_with fail
        go_ret
        exact ⟨by rw [HE2.out]; rfl, hbw⟩
    · obtain rfl : i = n := by omega
      have HE2 : Hid (R = 0) := Lib.hid (by rw [hE.out, List.drop_of_length_le (by rw [List.length_map, HL.out]; exact Nat.le_refl _)]; rfl)
      have hbw := hb.trans (hbr.mono hb.size)
      clear hE
      go_wp2_with fail
      go_ret
      exact ⟨by rw [HE2.out]; rfl, hbw⟩
end Go.Proofs.Tryz
