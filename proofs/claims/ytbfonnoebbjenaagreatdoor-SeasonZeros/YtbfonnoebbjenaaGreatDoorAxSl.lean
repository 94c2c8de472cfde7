/- The law of SeasonZeros: by the kit's walk. -/
import Derived.Test.YtbfonnoebbjenaaGreatDoorAxN
import Derived.Deep.CutRange
namespace Go.Proofs.Tryz
open Go Go.Am Go.RowKit Go.Op
set_option maxRecDepth 100000

theorem fstE_none : ∀ {l : List Int}, (∀ x ∈ l, x = 0) → fstE l = 0
  | [], _ => rfl
  | y :: r, h => by
    unfold fstE
    rw [if_pos (h y (by simp))]
    exact fstE_none fun x hx => h x (by simp [hx])
theorem gmE_turn {g : GmD} (h : gmE g = 0) : gmE (turnG g) = 0 := by
  have h0 := h
  unfold gmE at h
  split at h
  · rename_i hq
    have hall := fstE_all hq
    unfold gmE
    rw [if_pos]
    · exact h
    · refine fstE_none fun x hx => ?_
      unfold headL turnG at hx
      unfold headL at hall
      simp only [List.mem_cons, List.not_mem_nil, or_false] at hx hall
      rcases hx with e | e | e | e | e | e | e | e | e <;> exact hall x (by simp [e])
  · rename_i hq; exact absurd h hq
theorem seenB_turn (g : Nat → GmD) (nm : List UInt8) : ∀ i, seenB (fun j => turnG (g j)) nm i = seenB g nm i
  | 0 => rfl
  | i + 1 => by unfold seenB; rw [seenB_turn g nm i]; rfl
theorem bookK_turn {g : Nat → GmD} : ∀ {k i : Nat}, bookK g i k = 0 → bookK (fun j => turnG (g j)) i k = 0
  | 0, _, _ => rfl
  | k + 1, i, h => by
    rw [bookK] at h ⊢
    by_cases hq : gmE (g i) = 0
    · rw [if_pos hq] at h
      rw [if_pos (gmE_turn hq), seenB_turn]
      split at h
      · cases h
      · rename_i h1
        rw [if_neg (show ¬ seenB g (turnG (g i)).nm i = true from h1)]
        split at h
        · cases h
        · rename_i h2
          rw [if_neg (show ¬ (0 < i ∧ befB (turnG (g (i - 1))) (turnG (g i)) = false) from h2)]
          exact bookK_turn h
    · rw [if_neg hq] at h; exact absurd h hq
theorem bookE_turn {g : Nat → GmD} {n : Nat} (h : bookE g n = 0) : bookE (fun j => turnG (g j)) n = 0 := by
  unfold bookE at h ⊢
  split at h
  · cases h
  · rename_i h1
    rw [if_neg h1]
    exact bookK_turn h
/-- A team stands among the first lines. -/
def fndB (T : List Std) (t : List UInt8) (q : Nat) : Bool := (T.take q).any fun y => y.t == t
theorem fndB_next {T : List Std} {t : List UInt8} {q : Nat} {y : Std} (h : T[q]? = some y) : fndB T t (q + 1) = (fndB T t q || y.t == t) := by
  unfold fndB
  rw [take_snoc h, List.any_append]
  simp
theorem fndB_all {T : List Std} {t : List UInt8} (h : ∃ y ∈ T, y.t = t) : fndB T t T.length = true := by
  unfold fndB
  rw [List.take_length, List.any_eq_true]
  obtain ⟨y, hy, e⟩ := h
  exact ⟨y, hy, by simp [e]⟩
theorem eq92 (s : Std) (W : World) : (binOp .eql 92 (.agg s.arr) (.agg s.arr)).run prog W = .ok (.bool true) W := by
  have hS : prog.underlying 92 = some (.struct (prog.fieldsOf 92)) := by kernel_rfl
  have hp : prog.stoodInHeld 92 = false := by kernel_rfl
  have h : (Op.equalIn 10000 92 (.agg s.arr) (.agg s.arr)).run prog W = .ok true W := by
    rw [show (10000 : Nat) = 9999 + 1 from rfl, run_equalIn_agg W 9999 92 _ _ hS hp]
    simp only [Program.fieldsOf, underlying92]
    unfold Std.arr
    go_simp
  simp only [binOp]
  simp [Op.equal, Op.maxDepth, h]
theorem rowZ {W : World} {B e : Nat} {u : Value} {S : List Std} (h : OwnRow W B e 6 u (S.map Std.cells)) : Row W u 6 S.length (fun r => (S[r]?.getD (zeroS [])).cells) := by
  have h1 := OwnRow.row h
  rw [List.length_map] at h1
  refine h1.congr fun i hi => ?_
  rw [List.getElem?_map, List.getElem?_eq_getElem hi]
  rfl
set_option maxHeartbeats 12800000 in
theorem zeros_law {w : World} (hlaid : Laid w) {v : Value} {g : Nat → GmD} {n : Nat} (hv : IsGames w v g n) :
    Calls prog 8 #[v] w fun e w' => e = .returned (.bool true) ∧ Below w.heap.size w w' := by
  have HV := Lib.hid (And.intro hlaid hv)
  have c53 : ∀ W, Below w.heap.size w W → Calls prog 53 #[v] W _ := fun W h => valid_w (hv.below h)
  have c15 := awake_w hlaid
  obtain ⟨lv, hrow, hlin⟩ := hv
  obtain ⟨va, vc, rfl, hnc⟩ := hrow.slice
  have HL := Lib.hid (And.intro hrow hlin)
  clear hlaid hrow hlin
  go_enter func8, ntmps8
  go_wp2_with fail
  go_at_call 15
  refine c15.mono ?_
  rintro e W1 ⟨rfl, hb⟩
  clear c15
  have c15 := awake_w (HV.out.1.below hb)
  go_wp2_with fail
  go_at_call 53
  refine (c53 _ hb).mono ?_
  rintro e W2 ⟨⟨b1, rfl, h1⟩, hk⟩
  have hb2 := hb.trans (hk.mono hb.size)
  have c15 := awake_w (HV.out.1.below hb2)
  clear hb hk
  cases b1 with
  | false =>
    clear c53 h1
    go_wp2_with fail
    go_at_call 15
    refine c15.mono ?_
    rintro e W4 ⟨rfl, hk⟩
    have hb4 := hb2.trans (hk.mono hb2.size)
    clear c15 hk hb2
    go_wp2_with fail
    go_ret
    exact ⟨rfl, hb4⟩
  | true =>
    obtain ⟨hn6, hsh, hE⟩ := h1 rfl
    have hk : ∀ i, i < n → (g i).k ≤ 62 ∧ (g i).nm.length ≤ 60 := fun i hi => ⟨(hsh.2.2 i hi).1.2.2.2.2, (hsh.2.2 i hi).1.1⟩
    have hgm := (bookE_ok hE).2
    have HK := Lib.hid (And.intro hn6 (And.intro hk (And.intro hE hgm)))
    have c18 : ∀ W, Below w.heap.size w W → Calls prog 18 #[.slice va n vc] W _ := fun W h => book_of (HV.out.2.below h) (Nat.le_trans HK.out.1 (by decide)) (fun i hi => Nat.le_trans (HK.out.2.1 i hi).1 (by decide))
    have c45 : ∀ W u, IsGames W u g n → Calls prog 45 #[.agg #[u]] W _ := fun W u h => standings_w h (Nat.le_trans HK.out.1 (by decide)) HK.out.2.1
    simp only [hE] at c45
    clear c15 c53 h1 hsh hk hE hgm
    go_wp2_with fail
    go_at_call 18
    refine (c18 _ hb2).mono ?_
    rintro e W3 ⟨⟨u18, rfl, hu⟩, hk⟩
    have hg3 := hu.is
    have hb3 := hb2.trans (hk.mono hb2.size)
    clear hu hk hb2 c18
    go_wp2_with fail
    go_at_call 45
    refine (c45 _ _ hg3).mono ?_
    rintro e W4 ⟨⟨u3, rfl, hA⟩, hk⟩
    obtain ⟨S, hSp, hSs, hSr⟩ := hA.1 HK.out.2.2.1
    have hb4 := hb3.trans (hk.mono hb3.size)
    have hSR := rowZ hSr
    obtain ⟨F, hF⟩ : ∃ F, stdsK g n = F := ⟨_, rfl⟩
    rw [hF] at hSp
    have hInv := InvS.all (g := g) (n := n) fun i hi => (gmE_head (HK.out.2.2.2 i hi)).2.2.2.2.2.2.1
    have hSl : S.length ≤ 2 * n := by rw [hSp.length_eq, ← hF]; exact hInv.len
    have HF := Lib.hid (And.intro hF (And.intro hSp (And.intro hSs hInv)))
    obtain ⟨M, hM⟩ : ∃ M, S.length = M := ⟨_, rfl⟩
    have HM := Lib.hid hM
    rw [hM] at hSR hSl
    obtain ⟨a3, k3, rfl, -⟩ := hSR.slice
    have HSR := Lib.hid hSR
    clear c45 hg3 hb3 hk hA hSr hSp hSs hInv hSR hF hM
    go_upto_block 0 with fail
    go_cut [5] from 43 to 59 (fun s5 wx => Hid (IsGames wx s5 (fun i => turnG (g i)) n) ∧ Below W4.heap.size W4 wx)
    case first =>
      obtain ⟨iT, TT⟩ := elGR
      have HT := Lib.hid TT
      clear TT
      go_wp2_with fail
      go_loopw [5, 43] (fun s5 s43 wr => ∃ i : Nat, i ≤ n ∧ s43 = .int .i64 i ∧ OwnRow wr W4.heap.size 105 8 s5 (gamesL (fun j => turnG (g j)) lv i) ∧ Below W4.heap.size W4 wr) (fun _ s43 _ => n - (numOf' s43).toNat)
      case atStart => exact ⟨0, Nat.zero_le _, rfl, OwnRow.start _ _ _ _, Below.refl _ _⟩
      case round =>
        obtain ⟨i, hi, rfl, hrow, hb⟩ := hrel
        by_cases hin : i < n
        · have hii : (i : Int) < (n : Int) := by omega
          obtain ⟨bb, off, c, e, -, hp⟩ := (HL.out.1).at hin
          simp only [Value.slice.injEq, true_and] at e
          obtain ⟨rfl, rfl⟩ := e
          obtain ⟨la, lc, hlv, -⟩ := Row.slice (HL.out.2 i hin)
          rw [hlv] at hp
          have hbw := hb4.trans (hb.mono hb4.size)
          have p0 := (hbw.cell (cell_under (hp 0 _ rfl))).trans (hp 0 _ rfl)
          have p1 := (hbw.cell (cell_under (hp 1 _ rfl))).trans (hp 1 _ rfl)
          have p2 := (hbw.cell (cell_under (hp 2 _ rfl))).trans (hp 2 _ rfl)
          have p3 := (hbw.cell (cell_under (hp 3 _ rfl))).trans (hp 3 _ rfl)
          have p4 := (hbw.cell (cell_under (hp 4 _ rfl))).trans (hp 4 _ rfl)
          have p5 := (hbw.cell (cell_under (hp 5 _ rfl))).trans (hp 5 _ rfl)
          have p6 := (hbw.cell (cell_under (hp 6 _ rfl))).trans (hp 6 _ rfl)
          have p7 := (hbw.cell (cell_under (hp 7 _ rfl))).trans (hp 7 _ rfl)
          rw [Nat.add_zero] at p0
          have HLV := Lib.hid hlv
          have hll : (gamesL (fun j => turnG (g j)) lv i).length ≤ 1000000 := by rw [gamesL_len]; omega
          clear hp hlv
          go_wp2_with (first
            | (with_reducible refine haltR ?_)
            | fail)
          unfold Halt
          have hal0 : Below wr.heap.size wr (wr.alloc (.cells ((turnG (g i)).arr (.slice la (g i).k lc)) 105)) := (Below.refl _ _).alloc (Nat.le_refl _) _
          have hrow1 := OwnRow.below hrow hal0
          have hb1 := hb.trans (hal0.mono hb.size)
          obtain ⟨W5, hW5⟩ : ∃ W5, wr.alloc (.cells ((turnG (g i)).arr (.slice la (g i).k lc)) 105) = W5 := ⟨_, rfl⟩
          rw [hW5] at hrow1 hb1
          unfold GmD.arr turnG at hW5
          dsimp only at hW5
          rw [hW5]
          clear hal0 hW5 p0 p1 p2 p3 p4 p5 p6 p7 hrow hb
          have hal := fun o => (Below.refl W5.heap.size W5).alloc (Nat.le_refl _) o
          refine wpList_sliceR (fun w => run_sliceGR w (turnG (g i)) la (g i).k lc) _ rfl _ rfl rfl ?_
          refine wpList_appendR HT.out _ rfl _ _ rfl W4.heap.size _ (gamesL (fun j => turnG (g j)) lv i) _ rfl 1 rfl (OwnRow.below hrow1 (hal _)) hll ((turnG (g i)).cells (.slice la (g i).k lc)) rfl (GmD.one _ _ _ _) (at_new _ _ _) (Nat.le_trans hb1.size (hal _).size) ?_
          intro a9 k9 c9 w9 hA
          have hrow9 : OwnRow w9 W4.heap.size 105 8 (.slice a9 k9 c9) (gamesL (fun j => turnG (g j)) lv (i + 1)) := by
            have := hA.row
            unfold gamesL at this ⊢
            rw [List.range_succ, List.map_append, List.map_cons, List.map_nil, HLV.out]
            exact this
          have hb9 := hA.below W4 (hb1.trans ((hal _).mono hb1.size)) (Nat.le_refl _)
          clear hA hal hrow1 hb1
          go_wp2_with fail
          go_roundw
          case rel => exact ⟨i + 1, by omega, by go_num, hrow9, hb9⟩
          case measure => simp [numOf'] <;> omega
        · obtain rfl : i = n := by omega
          have hbw := hb4.trans (hb.mono hb4.size)
          have HG : Hid (IsGames wr u5 (fun i => turnG (g i)) i) := Lib.hid ⟨lv, by
            have h1 := OwnRow.row hrow
            rw [gamesL_len] at h1
            refine h1.congr fun j hj => ?_
            unfold gamesL
            rw [List.getElem?_map, List.getElem?_range hj]
            rfl, fun j hj => IsLines.below (HL.out.2 j hj) hbw⟩
          clear hrow
          go_wp2_with fail
          go_meet
          exact ⟨HG, hb⟩
    case rest =>
      obtain ⟨HGT, hbR⟩ := hcut
      have hb := hb4.trans (hbR.mono hb4.size)
      have HSR : Hid (Row wc (.slice a3 M k3) 6 M (fun r => (S[r]?.getD (zeroS [])).cells)) := Lib.hid (Row.below HSR.out hbR)
      generalize wc = W5 at HGT hb HSR ⊢
      clear hbR hb4
      obtain ⟨ta, tc, hu5, htc⟩ := (show Row W5 u5 8 n _ from HGT.out.choose_spec.1).slice
      have hkT : ∀ i, i < n → (turnG (g i)).k ≤ 62 ∧ (turnG (g i)).nm.length ≤ 60 := HK.out.2.1
      have hET := bookE_turn HK.out.2.2.1
      have c18 := book_of HGT.out (Nat.le_trans HK.out.1 (by decide)) (fun i hi => Nat.le_trans (hkT i hi).1 (by decide))
      have c45 : ∀ W u, IsGames W u (fun i => turnG (g i)) n → Calls prog 45 #[.agg #[u]] W _ := fun W u h => standings_w h (Nat.le_trans HK.out.1 (by decide)) hkT
      simp only [hET] at c45
      have HET := Lib.hid hET
      subst hu5
      clear hkT hET HGT
      go_wp2_with fail
      go_at_call 18
      refine c18.mono ?_
      rintro e W6 ⟨⟨u18, rfl, hu⟩, hk⟩
      have hg6 := hu.is
      have hb6 := hb.trans (hk.mono hb.size)
      have HSR : Hid (Row W6 (.slice a3 M k3) 6 M (fun r => (S[r]?.getD (zeroS [])).cells)) := Lib.hid (Row.below HSR.out hk)
      clear hu hk hb c18
      go_wp2_with fail
      go_at_call 45
      refine (c45 _ _ hg6).mono ?_
      rintro e W7 ⟨⟨u8, rfl, hA⟩, hk⟩
      have hb := hb6.trans (hk.mono hb6.size)
      have HSR : Hid (Row W7 (.slice a3 M k3) 6 M (fun r => (S[r]?.getD (zeroS [])).cells)) := Lib.hid (Row.below HSR.out hk)
      obtain ⟨T, hTp, hTs, hTr⟩ := hA.1 HET.out
      rw [stds_turn, HF.out.1] at hTp
      have hTR := rowZ hTr
      have hTl : T.length = M := by rw [hTp.length_eq, List.length_map, ← HM.out, HF.out.2.1.length_eq]
      have HT := Lib.hid (And.intro hTp hTl)
      rw [hTl] at hTR
      obtain ⟨a8, k8, rfl, -⟩ := hTR.slice
      have HTR := Lib.hid hTR
      have hM12 : M ≤ 12 := by have := HK.out.1; omega
      have hMn : ¬ (2 * (n : Int) < (M : Int)) := by omega
      have hn2 : IntKind.i64.wrap (2 * (n : Int)) = 2 * (n : Int) := IntWalk.i64_in _ (by have := HK.out.1; omega)
      have hxM : ((M : Int) != (M : Int)) = false := by simp
      clear c45 hg6 hb6 hk hA hTp hTs hTr hTl hTR
      generalize W7 = W8 at hb HSR HTR ⊢
      go_wp2_with fail
      go_loopw [10, 11, 12, 89] (fun s10 s11 s12 s89 wr => ∃ i : Nat, i ≤ M ∧ s89 = .int .i64 i ∧ (∃ x10 x11 x12 : Int, (s10 = .int .i64 x10 ∧ s11 = .int .i64 x11 ∧ s12 = .int .i64 x12) ∧ Hid (x10 = sumS gmsS (S.take i) ∧ x11 = sumS wnsS (S.take i) ∧ x12 = sumS rnsS (S.take i))) ∧ Below W8.heap.size W8 wr) (fun _ _ _ s89 _ => M - (numOf' s89).toNat)
      case atStart => exact ⟨0, Nat.zero_le _, rfl, ⟨0, 0, 0, ⟨rfl, rfl, rfl⟩, Lib.hid ⟨rfl, rfl, rfl⟩⟩, Below.refl _ _⟩
      case round =>
        obtain ⟨i, hi, rfl, ⟨x10, x11, x12, ⟨rfl, rfl, rfl⟩, HSUM⟩, hbl⟩ := hrel
        by_cases hiM : i < M
        · obtain ⟨x, hx⟩ : ∃ x, S[i]? = some x := ⟨_, List.getElem?_eq_getElem (by rw [HM.out]; exact hiM)⟩
          have hxS := List.mem_of_getElem? hx
          have hii : (i : Int) < (M : Int) := by omega
          obtain ⟨sb, so, sk, es, -, p0⟩ := (Row.below HSR.out hbl).at hiM
          simp only [Value.slice.injEq, true_and] at es
          obtain ⟨rfl, rfl⟩ := es
          simp only [hx, Option.getD_some] at p0
          have g0 := p0 0 _ rfl
          have g1 := p0 1 _ rfl
          have g2 := p0 2 _ rfl
          have g3 := p0 3 _ rfl
          have g4 := p0 4 _ rfl
          have g5 := p0 5 _ rfl
          rw [Nat.add_zero] at g0
          have hsmall := HF.out.2.2.2.small
          rw [HF.out.1] at hsmall
          have hsx := hsmall x (HF.out.2.1.subset hxS)
          have hteam := stds_team (g := g) (P := fun t => isNm t = true) (n := n) (fun i hi => ⟨(gmE_head (HK.out.2.2.2 i hi)).2.2.2.1, (gmE_head (HK.out.2.2.2 i hi)).2.2.2.2.1⟩)
          rw [HF.out.1] at hteam
          have hn12 : 2 * n ≤ 12 := by have := HK.out.1; omega
          have HOK : Hid (∀ z ∈ S, SmS 12 z ∧ chkS z = 0) := Lib.hid fun z hz => ⟨(hsmall z (HF.out.2.1.subset hz)).mono hn12, chkS_ok (m := 12) (by decide) (hteam z (HF.out.2.1.subset hz)) ((hsmall z (HF.out.2.1.subset hz)).mono hn12)⟩
          have HXS := Lib.hid hxS
          have HX := Lib.hid hx
          have hal : Below wr.heap.size wr (wr.alloc (.cells x.arr 92)) := (Below.refl _ _).alloc (Nat.le_refl _) _
          have hx14 := at_new wr x.arr 92
          have hbl1 := hbl.trans (hal.mono hbl.size)
          obtain ⟨W9, hW9⟩ : ∃ W9, wr.alloc (.cells x.arr 92) = W9 := ⟨_, rfl⟩
          rw [hW9] at hal hx14 hbl1
          have c49 := fun W => check49_w x W
          simp only [(HOK.out x hxS).2] at c49
          have HW9 := Lib.hid hW9
          obtain ⟨o1, o2, o3, o4, o5⟩ := (HOK.out x hxS).1
          have b1 := sumS_le (f := gmsS) (b := 40) (by decide) (L := S.take i) (fun s hs => by obtain ⟨⟨q1, q2, q3, q4, q5⟩, -⟩ := HOK.out s (List.mem_of_mem_take hs); unfold gmsS; omega)
          have b2 := sumS_le (f := wnsS) (b := 40) (by decide) (L := S.take i) (fun s hs => by obtain ⟨⟨q1, q2, q3, q4, q5⟩, -⟩ := HOK.out s (List.mem_of_mem_take hs); unfold wnsS; omega)
          have b3 := sumS_le (f := rnsS) (b := 20000) (by decide) (L := S.take i) (fun s hs => by obtain ⟨⟨q1, q2, q3, q4, q5⟩, -⟩ := HOK.out s (List.mem_of_mem_take hs); unfold rnsS; omega)
          have hli : (S.take i).length ≤ 12 := by rw [List.length_take]; omega
          obtain ⟨e1, e2, e3⟩ := HSUM.out
          rw [← e1] at b1
          rw [← e2] at b2
          rw [← e3] at b3
          have HNX : Hid (x10 + (x.w + x.l + x.d) = sumS gmsS (S.take (i + 1)) ∧ x11 + (x.w - x.l) = sumS wnsS (S.take (i + 1)) ∧ x12 + (x.f - x.a) = sumS rnsS (S.take (i + 1))) := Lib.hid ⟨by rw [sumS_take hx, e1]; rfl, by rw [sumS_take hx, e2]; rfl, by rw [sumS_take hx, e3]; rfl⟩
          obtain ⟨v1, v2⟩ := inI_wrap (show inI (x.w + x.l) by unfold inI; omega)
          obtain ⟨v3, v4⟩ := inI_wrap (show inI (x.w + x.l + x.d) by unfold inI; omega)
          obtain ⟨v5, v6⟩ := inI_wrap (show inI (x10 + (x.w + x.l + x.d)) by unfold inI; omega)
          obtain ⟨v7, v8⟩ := inI_wrap (show inI (x.w - x.l) by unfold inI; omega)
          obtain ⟨v9, v10⟩ := inI_wrap (show inI (x11 + (x.w - x.l)) by unfold inI; omega)
          obtain ⟨v11, v12⟩ := inI_wrap (show inI (x.f - x.a) by unfold inI; omega)
          obtain ⟨v13, v14⟩ := inI_wrap (show inI (x12 + (x.f - x.a)) by unfold inI; omega)
          have h14l : wr.heap.size < W9.heap.size := hx14.lt
          unfold Std.arr at hW9 hx14
          have HW9 := Lib.hid hW9
          clear hW9 hal b1 b2 b3 hli e1 e2 e3 hsmall hsx hteam hn12 hx hxS o1 o2 o3 o4 o5 p0
          go_wp2_with fail
          try rw [HW9.out]
          clear HW9 g0 g1 g2 g3 g4 g5
          go_at_call 49
          refine (c49 _).mono ?_
          rintro e W10 ⟨rfl, hk⟩
          have hx14 := hx14.below hk hx14.lt
          have hbl := hbl1.trans (hk.mono hbl1.size)
          generalize wr.heap.size = b14 at hx14 h14l ⊢
          clear c49 hk hbl1 h14l
          go_upto_if 122 with fail
          clear v1 v2 v3 v4 v5 v6 v7 v8 v9 v10 v13 v14
          go_cut [15, 16, 17, 122] from 123 to 186 (fun s15 s16 s17 s122 wx => Below W10.heap.size W10 wx)
          case first =>
            rcases Nat.eq_zero_or_pos i with h0 | h0
            · have hi0 : ¬ (0 : Int) < (i : Int) := by omega
              have hrf := Below.refl W10.heap.size W10
              clear h0
              go_wp2_with fail
              go_meet
              exact hrf
            · obtain ⟨q, rfl⟩ : ∃ q, i = q + 1 := ⟨i - 1, by omega⟩
              obtain ⟨y, hy⟩ : ∃ y, S[q]? = some y := ⟨_, List.getElem?_eq_getElem (by rw [HM.out]; omega)⟩
              have hlt := ltS_cases (sort_next HF.out.2.2.1 hy HX.out)
              obtain ⟨o1, o2, o3, o4, o5⟩ := (HOK.out y (List.mem_of_getElem? hy)).1
              have hsm := small_S (m := 12) (by decide) (HOK.out x HXS.out).1 (HOK.out y (List.mem_of_getElem? hy)).1
              obtain ⟨⟨m1, m2⟩, ⟨m3, m4⟩, ⟨m5, m6⟩, ⟨m7, m8⟩, ⟨m9, m10⟩, m11, m12⟩ := hsm
              obtain ⟨sb', so', sk', es, -, p0⟩ := (Row.below HSR.out hbl).at (show q < M by omega)
              simp only [Value.slice.injEq, Option.some.injEq, Addr.mk.injEq, and_true, true_and] at es
              obtain ⟨⟨rfl, rfl⟩, rfl⟩ := es
              simp only [hy, Option.getD_some] at p0
              have g0 := p0 0 _ rfl
              have g1 := p0 1 _ rfl
              have g2 := p0 2 _ rfl
              have g3 := p0 3 _ rfl
              have g4 := p0 4 _ rfl
              have g5 := p0 5 _ rfl
              rw [Nat.add_zero] at g0
              have hal : Below W10.heap.size W10 (W10.alloc (.cells y.arr 92)) := (Below.refl _ _).alloc (Nat.le_refl _) _
              have hy15 := at_new W10 y.arr 92
              have hx14b := hx14.below hal hx14.lt
              obtain ⟨Wa, hWa⟩ : ∃ Wa, W10.alloc (.cells y.arr 92) = Wa := ⟨_, rfl⟩
              rw [hWa] at hal hy15 hx14b
              unfold Std.arr at hWa hy15
              have HWa := Lib.hid hWa
              obtain ⟨⟨z0, z1, z2, z3, z4, z5⟩, -⟩ := box6 hx14b
              obtain ⟨⟨y0, y1, y2, y3, y4, y5⟩, -⟩ := box6 hy15
              have i1 : (0 : Int) < ((q + 1 : Nat) : Int) := by omega
              have i2 : ((q + 1 : Nat) : Int) - 1 = (q : Int) := by omega
              have i3 : (q : Int) < (M : Int) := by omega
              have i4 : IntKind.i64.wrap (q : Int) = (q : Int) := IntWalk.i64_in _ (by omega)
              have i6 : IntKind.i64.wrap ((q : Int) + 1 - 1) = (q : Int) := by rw [IntWalk.i64_in _ (by omega)]; omega
              have i9 : (0 : Int) < (q : Int) + 1 := by omega
              have ly : (bA y.t).toList = y.t := bA_list _
              have lx : (bA x.t).toList = x.t := bA_list _
              have HLT := Lib.hid hlt
              have hlt15 : W10.heap.size < Wa.heap.size := hy15.lt
              clear p0 hlt hWa hy o1 o2 o3 o4 o5 h0
              go_wp2_with fail
              rw [HWa.out]
              clear HWa g0 g1 g2 g3 g4 g5
              go_cut [16, 17] from 128 to 145 (fun s16 s17 wx => s16 = .int .i64 (y.w * nS x) ∧ s17 = .int .i64 (x.w * nS y) ∧ Below Wa.heap.size Wa wx)
              case first =>
                go_quiet (fail)
                have hbn := belowN (Below.refl Wa.heap.size Wa) nq
                go_wp2_with fail
                go_meet
                exact ⟨rfl, rfl, hbn⟩
              case rest =>
              obtain ⟨rfl, rfl, hbc⟩ := hcut
              have hx14c := hx14b.below hbc hx14b.lt
              have hy15c := hy15.below hbc hy15.lt
              have hbd := hal.trans (hbc.mono hal.size)
              generalize wc = Wb at hx14c hy15c hbd ⊢
              obtain ⟨⟨z0, z1, z2, z3, z4, z5⟩, -⟩ := box6 hx14c
              obtain ⟨⟨y0, y1, y2, y3, y4, y5⟩, -⟩ := box6 hy15c
              generalize y.w * nS x = U at HLT ⊢
              generalize x.w * nS y = V at HLT ⊢
              rcases HLT.out with h | ⟨rfl, h | ⟨h, hbl⟩⟩
              · have k1 : ¬ U < V := by omega
                have k2 : (U == V) = false := beq_eq_false_iff_ne.2 (by omega)
                clear h HLT
                go_wp2_with fail
                go_meet
                exact hbd
              · have k1 : ¬ U < U := by omega
                have k2 : ¬ y.f - y.a < x.f - x.a := by omega
                have k3 : (y.f - y.a == x.f - x.a) = false := beq_eq_false_iff_ne.2 (by omega)
                clear h HLT
                go_wp2_with fail
                go_meet
                exact hbd
              · have k1 : ¬ U < U := by omega
                have k2 : ¬ y.f - y.a < x.f - x.a := by omega
                have k3 : (y.f - y.a == x.f - x.a) = true := beq_iff_eq.2 h
                clear h HLT
                go_wp2_with fail
                go_meet
                exact hbd
          case rest =>
          have hbq := hcut
          have hx14 := hx14.below hbq hx14.lt
          have hbl := hbl.trans (hbq.mono hbl.size)
          generalize wc = W11 at hx14 hbl ⊢
          clear hbq v11 v12
          obtain ⟨hex, hall⟩ := swap_in HF.out.2.2.2.names (HF.out.1 ▸ HT.out.1) (HF.out.1 ▸ HF.out.2.1) HXS.out
          have HEX := Lib.hid (fndB_all hex)
          have HALL := Lib.hid hall
          obtain ⟨z, hz⟩ : ∃ z, S[0]? = some z := ⟨_, List.getElem?_eq_getElem (by rw [HM.out]; omega)⟩
          obtain ⟨R, hR⟩ : ∃ R, M - 1 = R := ⟨_, rfl⟩
          obtain ⟨u, hu⟩ : ∃ u, S[R]? = some u := ⟨_, List.getElem?_eq_getElem (by rw [HM.out]; omega)⟩
          have HZU := Lib.hid (And.intro (HOK.out z (List.mem_of_getElem? hz)).2 (And.intro (HOK.out u (List.mem_of_getElem? hu)).2 (HOK.out x HXS.out).2))
          have HZ := Lib.hid (And.intro hz (And.intro hu hR))
          have HSM := Lib.hid (And.intro (HOK.out z (List.mem_of_getElem? hz)).1 (And.intro (HOK.out u (List.mem_of_getElem? hu)).1 (HOK.out x HXS.out).1))
          clear hex hall hz hu hR
          go_wp2_with fail
          go_loopw [18, 189] (fun s18 s189 wr => ∃ q : Nat, q ≤ M ∧ s18 = .bool (fndB T x.t q) ∧ s189 = .int .i64 q ∧ Below W11.heap.size W11 wr) (fun _ s189 _ => M - (numOf' s189).toNat)
          case atStart => exact ⟨0, Nat.zero_le _, rfl, rfl, Below.refl _ _⟩
          case round =>
            obtain ⟨q, hq, rfl, rfl, hb2⟩ := hrel
            by_cases hqM : q < M
            · obtain ⟨y, hy⟩ : ∃ y, T[q]? = some y := ⟨_, List.getElem?_eq_getElem (by rw [HT.out.2]; exact hqM)⟩
              have hqq : (q : Int) < (M : Int) := by omega
              obtain ⟨sb', so', sk', es, -, p0⟩ := (Row.below HTR.out (hbl.trans (hb2.mono hbl.size))).at hqM
              simp only [Value.slice.injEq, true_and] at es
              obtain ⟨rfl, rfl⟩ := es
              simp only [hy, Option.getD_some] at p0
              have g0 := p0 0 _ rfl
              have g1 := p0 1 _ rfl
              have g2 := p0 2 _ rfl
              have g3 := p0 3 _ rfl
              have g4 := p0 4 _ rfl
              have g5 := p0 5 _ rfl
              rw [Nat.add_zero] at g0
              have hx14q := hx14.below hb2 hx14.lt
              have hal : Below wr.heap.size wr (wr.alloc (.cells y.arr 92)) := (Below.refl _ _).alloc (Nat.le_refl _) _
              have hb3 := hb2.trans (hal.mono hb2.size)
              have hlt14 := hx14q.lt
              have hx14b := hx14q.below hal hx14q.lt
              unfold Std.arr at hal hx14b hb3
              obtain ⟨⟨v0, v1, v2, v3, v4, v5⟩, -⟩ := box6 hx14q
              obtain ⟨⟨z0, z1, z2, z3, z4, z5⟩, -⟩ := box6 hx14b
              have lx : (bA x.t).toList = x.t := bA_list _
              have hnx := fndB_next (t := x.t) hy
              by_cases ht : y.t = x.t
              · obtain rfl := HALL.out y (List.mem_of_getElem? hy) ht
                have hqb : (x.t == x.t) = true := by simp
                have hnt : fndB T x.t (q + 1) = true := by rw [hnx, ht]; simp
                have HNT := Lib.hid hnt
                have heq := eq92 (swapS x)
                unfold Std.arr at heq
                unfold swapS at heq g0 g1 g2 g3 g4 g5 z0 z1 z2 z3 z4 z5 hb3
                dsimp only at heq g0 g1 g2 g3 g4 g5 z0 z1 z2 z3 z4 z5 hb3
                clear p0 hy ht hnt hnx hx14q hx14b hal hb2
                go_wp2_with fail
                go_roundw
                case rel => exact ⟨q + 1, by omega, by rw [HNT.out], by go_num, hb3⟩
                case measure => simp [numOf'] <;> omega
              · have ly : (bA y.t).toList = y.t := bA_list _
                have hqb : (y.t == x.t) = false := by simpa using ht
                have hnt : fndB T x.t (q + 1) = fndB T x.t q := by rw [hnx, hqb, Bool.or_false]
                have HNT := Lib.hid hnt
                clear p0 hy ht hnt hnx hx14q hx14b hal hb2
                go_wp2_with fail
                go_roundw
                case rel => exact ⟨q + 1, by omega, by rw [HNT.out], by go_num, hb3⟩
                case measure => simp [numOf'] <;> omega
            · obtain rfl : q = M := by omega
              have hfn : fndB T x.t q = true := by rw [← HT.out.2]; exact HEX.out
              have hqq : ¬ (q : Int) < (q : Int) := by omega
              have hbl := hbl.trans (hb2.mono hbl.size)
              have hx14 := hx14.below hb2 hx14.lt
              rw [hfn]
              clear hb2 hfn
              go_wp2_with fail
              generalize wr = W12 at hbl hx14 ⊢
              have hM0 : (0 : Int) < (q : Int) := by omega
              have hM1 : 0 < q := by omega
              have hRM : (R : Int) < (q : Int) := by have := HZ.out.2.2; omega
              have hRn : R < q := by have := HZ.out.2.2; omega
              have hRw : IntKind.i64.wrap ((q : Int) - 1) = (R : Int) := by have := HZ.out.2.2; rw [IntWalk.i64_in _ (by omega)]; omega
              obtain ⟨sb1, so1, sk1, es, -, p0⟩ := (Row.below HSR.out hbl).at hM1
              simp only [Value.slice.injEq, Option.some.injEq, Addr.mk.injEq, and_true, true_and] at es
              obtain ⟨⟨rfl, rfl⟩, rfl⟩ := es
              simp only [HZ.out.1, Option.getD_some, Nat.zero_mul, Nat.add_zero] at p0
              obtain ⟨sb2, so2, sk2, es, -, pr⟩ := (Row.below HSR.out hbl).at hRn
              simp only [Value.slice.injEq, Option.some.injEq, Addr.mk.injEq, and_true, true_and] at es
              obtain ⟨⟨rfl, rfl⟩, rfl⟩ := es
              simp only [HZ.out.2.1, Option.getD_some] at pr
              have P0 := Lib.hid p0
              have PR := Lib.hid pr
              have c1 := behind_w z x
              have c2 := behind_w x u
              have c3 := behind_w z u
              obtain ⟨k1, d1⟩ := behV_ok HZU.out.1 HZU.out.2.2
              obtain ⟨k2, d2⟩ := behV_ok HZU.out.2.2 HZU.out.2.1
              obtain ⟨k3, d3⟩ := behV_ok HZU.out.1 HZU.out.2.1
              simp only [k1] at c1
              simp only [k2] at c2
              simp only [k3] at c3
              have hV : IntKind.i64.wrap (behV z x + behV x u) = behV z u := by
                obtain ⟨o1, o2, o3, o4, o5⟩ := HSM.out.1
                obtain ⟨r1, r2, r3, r4, r5⟩ := HSM.out.2.1
                obtain ⟨s1, s2, s3, s4, s5⟩ := HSM.out.2.2
                rw [IntWalk.i64_in _ (by omega)]; omega
              obtain ⟨V1, hV1⟩ : ∃ V, behV z x = V := ⟨_, rfl⟩
              obtain ⟨V2, hV2⟩ : ∃ V, behV x u = V := ⟨_, rfl⟩
              obtain ⟨V3, hV3⟩ : ∃ V, behV z u = V := ⟨_, rfl⟩
              rw [hV1] at c1 hV
              rw [hV2] at c2 hV
              rw [hV3] at c3 hV
              have hV4 : (V3 != V3) = false := by simp
              have HC1 := Lib.hid c1
              have HC2 := Lib.hid c2
              have HC3 := Lib.hid c3
              clear p0 pr c1 c2 c3 k1 k2 k3 d1 d2 d3 hV1 hV2 hV3
              go_cut [21, 22] from 216 to 223 (fun s21 s22 wx => s21 = .int .i64 V1 ∧ s22 = .int .i64 0 ∧ Below W12.heap.size W12 wx)
              case first =>
                have hbk : Below W12.heap.size W12 W12.drew := (Below.refl _ _).drew
                have c1 := HC1.out
                refine wp_region_held_drew (S := (fun W => Below W12.heap.size W12 W)) (by kernel_rfl) ?_ (fun hHeld => ?_)
                · (try dsimp only)
                  exact hbk
                refine wpAnyH_take (i := 0) (oi := { dst := some 217, op := Op.move (Operand.tmp 3), type := 86, pos := "law.go:526", after := #[], guard := none }) (v := ?_) rfl (by kernel_rfl) (by kernel_rfl) (by kernel_rfl) (fun _ _ _ h => h) (Or.inl ⟨by rfl, ?_⟩) (by assumption) ?_
                rotate_left
                · (intro w hSw; (try dsimp only at hSw); go_simp); all_goals (with_reducible rfl)
                try simp only [Act.put, List.setIfInBounds_toArray, List.set_cons_zero, List.set_cons_succ]
                refine wpAnyH_take (i := 1) (oi := { dst := some 218, op := Op.indexAddr 86 (Operand.tmp 217) (Operand.const (Value.int IntKind.i64 0)), type := 0, pos := "law.go:526", after := #[{ on := 0, ground := Ground.data }], guard := none }) (v := ?_) rfl (by kernel_rfl) (by kernel_rfl) (by kernel_rfl) (fun _ _ _ h => h) (Or.inl ⟨by rfl, ?_⟩) (by assumption) ?_
                rotate_left
                · (intro w hSw; (try dsimp only at hSw); go_simp); all_goals (with_reducible rfl)
                try simp only [Act.put, List.setIfInBounds_toArray, List.set_cons_zero, List.set_cons_succ]
                refine wpAnyH_take (i := 2) (oi := { dst := some 219, op := Op.load 92 (Operand.tmp 218), type := 92, pos := "law.go:526", after := #[{ on := 1, ground := Ground.data }], guard := none }) (v := ?_) rfl (by kernel_rfl) (by kernel_rfl) (by kernel_rfl) (fun _ _ _ h => h) (Or.inl ⟨by rfl, ?_⟩) (by assumption) ?_
                rotate_left
                · (intro w hSw; have a0 := (hSw.cell (cell_under (P0.out 0 _ rfl))).trans (P0.out 0 _ rfl); have a1 := (hSw.cell (cell_under (P0.out 1 _ rfl))).trans (P0.out 1 _ rfl); have a2 := (hSw.cell (cell_under (P0.out 2 _ rfl))).trans (P0.out 2 _ rfl); have a3 := (hSw.cell (cell_under (P0.out 3 _ rfl))).trans (P0.out 3 _ rfl); have a4 := (hSw.cell (cell_under (P0.out 4 _ rfl))).trans (P0.out 4 _ rfl); have a5 := (hSw.cell (cell_under (P0.out 5 _ rfl))).trans (P0.out 5 _ rfl); try rw [Nat.add_zero] at a0; (try dsimp only at hSw); go_simp); all_goals (with_reducible rfl)
                try simp only [Act.put, List.setIfInBounds_toArray, List.set_cons_zero, List.set_cons_succ]
                refine wpAnyH_take (i := 3) (oi := { dst := some 220, op := Op.load 92 (Operand.tmp 14), type := 92, pos := "law.go:526", after := #[], guard := none }) (v := ?_) rfl (by kernel_rfl) (by kernel_rfl) (by kernel_rfl) (fun _ _ _ h => h) (Or.inl ⟨by rfl, ?_⟩) (by assumption) ?_
                rotate_left
                · (intro w hSw; obtain ⟨⟨z0, z1, z2, z3, z4, z5⟩, -⟩ := box6 (hx14.below hSw hx14.lt); (try dsimp only at hSw); go_simp); all_goals (with_reducible rfl)
                try simp only [Act.put, List.setIfInBounds_toArray, List.set_cons_zero, List.set_cons_succ]
                refine wpAnyH_ready (rs := [4]) (by kernel_rfl) (by simp) ?_
                refine AllReadyH.cons (o := _) rfl (fun K hK => ?_) ?_
                · -- 47
                  (go_simp; refine Calls.mono (c1 _) ?_; rintro e W ⟨rfl, hk⟩; replace hbk := hbk.trans (hk.mono hbk.size); clear hk)
                  refine hK.out _ _ ?_ (fun hHeld => ?_)
                  · (try dsimp only)
                    exact hbk
                  clear hK K
                  try simp only [Act.put, List.setIfInBounds_toArray, List.set_cons_zero, List.set_cons_succ]
                  refine wpAnyH_take (i := 5) (oi := { dst := some 216, op := Op.move (Operand.tmp 221), type := 90, pos := "law.go:526", after := #[{ on := 4, ground := Ground.data }], guard := none }) (v := ?_) rfl (by kernel_rfl) (by kernel_rfl) (by kernel_rfl) (fun _ _ _ h => h) (Or.inl ⟨by rfl, ?_⟩) (by assumption) ?_
                  rotate_left
                  · (intro w hSw; (try dsimp only at hSw); go_simp); all_goals (with_reducible rfl)
                  try simp only [Act.put, List.setIfInBounds_toArray, List.set_cons_zero, List.set_cons_succ]
                  refine wpAnyH_take (i := 6) (oi := { dst := some 222, op := Op.extract (Operand.tmp 216) 0, type := 3, pos := "law.go:526", after := #[{ on := 5, ground := Ground.data }], guard := none }) (v := ?_) rfl (by kernel_rfl) (by kernel_rfl) (by kernel_rfl) (fun _ _ _ h => h) (Or.inl ⟨by rfl, ?_⟩) (by assumption) ?_
                  rotate_left
                  · (intro w hSw; (try dsimp only at hSw); go_simp); all_goals (with_reducible rfl)
                  try simp only [Act.put, List.setIfInBounds_toArray, List.set_cons_zero, List.set_cons_succ]
                  refine wpAnyH_take (i := 7) (oi := { dst := some 223, op := Op.extract (Operand.tmp 216) 1, type := 26, pos := "law.go:526", after := #[{ on := 5, ground := Ground.data }, { on := 8, ground := Ground.gcOnly Departure.lateStores }], guard := none }) (v := ?_) rfl (by kernel_rfl) (by kernel_rfl) (by kernel_rfl) (fun _ _ _ h => h) (Or.inl ⟨by rfl, ?_⟩) (by assumption) ?_
                  rotate_left
                  · (intro w hSw; (try dsimp only at hSw); go_simp); all_goals (with_reducible rfl)
                  try simp only [Act.put, List.setIfInBounds_toArray, List.set_cons_zero, List.set_cons_succ]
                  refine wpAnyH_take (i := 8) (oi := { dst := some 21, op := Op.assign (Operand.tmp 222), type := 3, pos := "law.go:526", after := #[{ on := 6, ground := Ground.data }, { on := 4, ground := Ground.chain }, { on := 0, ground := Ground.phase }, { on := 1, ground := Ground.phase }, { on := 2, ground := Ground.phase }, { on := 3, ground := Ground.phase }, { on := 4, ground := Ground.phase }, { on := 5, ground := Ground.phase }, { on := 6, ground := Ground.phase }, { on := 7, ground := Ground.textOnly Departure.lateStores }], guard := none }) (v := ?_) rfl (by kernel_rfl) (by kernel_rfl) (by kernel_rfl) (fun _ _ _ h => h) (Or.inl ⟨by rfl, ?_⟩) (by assumption) ?_
                  rotate_left
                  · (intro w hSw; (try dsimp only at hSw); go_simp); all_goals (with_reducible rfl)
                  try simp only [Act.put, List.setIfInBounds_toArray, List.set_cons_zero, List.set_cons_succ]
                  refine wpAnyH_take (i := 9) (oi := { dst := some 22, op := Op.assign (Operand.tmp 223), type := 26, pos := "law.go:526", after := #[{ on := 7, ground := Ground.data }, { on := 8, ground := Ground.chain }, { on := 0, ground := Ground.phase }, { on := 1, ground := Ground.phase }, { on := 2, ground := Ground.phase }, { on := 3, ground := Ground.phase }, { on := 4, ground := Ground.phase }, { on := 5, ground := Ground.phase }, { on := 6, ground := Ground.phase }, { on := 7, ground := Ground.phase }, { on := 8, ground := Ground.phase }], guard := none }) (v := ?_) rfl (by kernel_rfl) (by kernel_rfl) (by kernel_rfl) (fun _ _ _ h => h) (Or.inl ⟨by rfl, ?_⟩) (by assumption) ?_
                  rotate_left
                  · (intro w hSw; (try dsimp only at hSw); go_simp); all_goals (with_reducible rfl)
                  try simp only [Act.put, List.setIfInBounds_toArray, List.set_cons_zero, List.set_cons_succ]
                  refine wpAnyH_done (by kernel_rfl) ?_ _
                  go_wp2_with fail
                  go_meet
                  exact ⟨rfl, rfl, hbk⟩
                exact AllReadyH.nil
              case rest =>
              obtain ⟨rfl, rfl, hbc⟩ := hcut
              go_wp2_with fail
              go_cut [23, 24] from 224 to 234 (fun s23 s24 wx => s23 = .int .i64 V2 ∧ s24 = .int .i64 0 ∧ Below W12.heap.size W12 wx)
              case first =>
                have hbk : Below W12.heap.size W12 wc.drew := hbc.drew
                have c1 := HC2.out
                refine wp_region_held_drew (S := (fun W => Below W12.heap.size W12 W)) (by kernel_rfl) ?_ (fun hHeld => ?_)
                · (try dsimp only)
                  exact hbk
                refine wpAnyH_take (i := 0) (oi := { dst := some 225, op := Op.load 92 (Operand.tmp 14), type := 92, pos := "law.go:527", after := #[], guard := none }) (v := ?_) rfl (by kernel_rfl) (by kernel_rfl) (by kernel_rfl) (fun _ _ _ h => h) (Or.inl ⟨by rfl, ?_⟩) (by assumption) ?_
                rotate_left
                · (intro w hSw; obtain ⟨⟨z0, z1, z2, z3, z4, z5⟩, -⟩ := box6 (hx14.below hSw hx14.lt); (try dsimp only at hSw); go_simp); all_goals (with_reducible rfl)
                try simp only [Act.put, List.setIfInBounds_toArray, List.set_cons_zero, List.set_cons_succ]
                refine wpAnyH_take (i := 1) (oi := { dst := some 226, op := Op.move (Operand.tmp 3), type := 86, pos := "law.go:527", after := #[], guard := none }) (v := ?_) rfl (by kernel_rfl) (by kernel_rfl) (by kernel_rfl) (fun _ _ _ h => h) (Or.inl ⟨by rfl, ?_⟩) (by assumption) ?_
                rotate_left
                · (intro w hSw; (try dsimp only at hSw); go_simp); all_goals (with_reducible rfl)
                try simp only [Act.put, List.setIfInBounds_toArray, List.set_cons_zero, List.set_cons_succ]
                refine wpAnyH_take (i := 2) (oi := { dst := some 227, op := Op.move (Operand.tmp 3), type := 86, pos := "law.go:527", after := #[], guard := none }) (v := ?_) rfl (by kernel_rfl) (by kernel_rfl) (by kernel_rfl) (fun _ _ _ h => h) (Or.inl ⟨by rfl, ?_⟩) (by assumption) ?_
                rotate_left
                · (intro w hSw; (try dsimp only at hSw); go_simp); all_goals (with_reducible rfl)
                try simp only [Act.put, List.setIfInBounds_toArray, List.set_cons_zero, List.set_cons_succ]
                refine wpAnyH_ready (rs := [3]) (by kernel_rfl) (by simp) ?_
                refine AllReadyH.cons (o := _) rfl (fun K hK => ?_) ?_
                · -- len
                  go_simp
                  refine hK.out _ _ ?_ (fun hHeld => ?_)
                  · (try dsimp only)
                    exact hbk
                  clear hK K
                  try simp only [Act.put, List.setIfInBounds_toArray, List.set_cons_zero, List.set_cons_succ]
                  refine wpAnyH_take (i := 4) (oi := { dst := some 229, op := Op.binOp BinOp.sub 3 (Operand.tmp 228) (Operand.const (Value.int IntKind.i64 1)) 3, type := 3, pos := "law.go:527", after := #[{ on := 3, ground := Ground.data }], guard := none }) (v := ?_) rfl (by kernel_rfl) (by kernel_rfl) (by kernel_rfl) (fun _ _ _ h => h) (Or.inl ⟨by rfl, ?_⟩) (by assumption) ?_
                  rotate_left
                  · (intro w hSw; (try dsimp only at hSw); go_simp); all_goals (with_reducible rfl)
                  try simp only [Act.put, List.setIfInBounds_toArray, List.set_cons_zero, List.set_cons_succ]
                  refine wpAnyH_take (i := 5) (oi := { dst := some 230, op := Op.indexAddr 86 (Operand.tmp 226) (Operand.tmp 229), type := 0, pos := "law.go:527", after := #[{ on := 1, ground := Ground.data }, { on := 4, ground := Ground.data }], guard := none }) (v := ?_) rfl (by kernel_rfl) (by kernel_rfl) (by kernel_rfl) (fun _ _ _ h => h) (Or.inl ⟨by rfl, ?_⟩) (by assumption) ?_
                  rotate_left
                  · (intro w hSw; (try dsimp only at hSw); go_simp); all_goals (with_reducible rfl)
                  try simp only [Act.put, List.setIfInBounds_toArray, List.set_cons_zero, List.set_cons_succ]
                  refine wpAnyH_take (i := 6) (oi := { dst := some 231, op := Op.load 92 (Operand.tmp 230), type := 92, pos := "law.go:527", after := #[{ on := 5, ground := Ground.data }], guard := none }) (v := ?_) rfl (by kernel_rfl) (by kernel_rfl) (by kernel_rfl) (fun _ _ _ h => h) (Or.inl ⟨by rfl, ?_⟩) (by assumption) ?_
                  rotate_left
                  · (intro w hSw; have b0 := (hSw.cell (cell_under (PR.out 0 _ rfl))).trans (PR.out 0 _ rfl); have b1 := (hSw.cell (cell_under (PR.out 1 _ rfl))).trans (PR.out 1 _ rfl); have b2 := (hSw.cell (cell_under (PR.out 2 _ rfl))).trans (PR.out 2 _ rfl); have b3 := (hSw.cell (cell_under (PR.out 3 _ rfl))).trans (PR.out 3 _ rfl); have b4 := (hSw.cell (cell_under (PR.out 4 _ rfl))).trans (PR.out 4 _ rfl); have b5 := (hSw.cell (cell_under (PR.out 5 _ rfl))).trans (PR.out 5 _ rfl); rw [Nat.add_zero] at b0; (try dsimp only at hSw); go_simp); all_goals (with_reducible rfl)
                  try simp only [Act.put, List.setIfInBounds_toArray, List.set_cons_zero, List.set_cons_succ]
                  refine wpAnyH_ready (rs := [7]) (by kernel_rfl) (by simp) ?_
                  refine AllReadyH.cons (o := _) rfl (fun K hK => ?_) ?_
                  · -- 47
                    (go_simp; refine Calls.mono (c1 _) ?_; rintro e W ⟨rfl, hk⟩; replace hbk := hbk.trans (hk.mono hbk.size); clear hk)
                    refine hK.out _ _ ?_ (fun hHeld => ?_)
                    · (try dsimp only)
                      exact hbk
                    clear hK K
                    try simp only [Act.put, List.setIfInBounds_toArray, List.set_cons_zero, List.set_cons_succ]
                    refine wpAnyH_take (i := 8) (oi := { dst := some 224, op := Op.move (Operand.tmp 232), type := 90, pos := "law.go:527", after := #[{ on := 7, ground := Ground.data }], guard := none }) (v := ?_) rfl (by kernel_rfl) (by kernel_rfl) (by kernel_rfl) (fun _ _ _ h => h) (Or.inl ⟨by rfl, ?_⟩) (by assumption) ?_
                    rotate_left
                    · (intro w hSw; (try dsimp only at hSw); go_simp); all_goals (with_reducible rfl)
                    try simp only [Act.put, List.setIfInBounds_toArray, List.set_cons_zero, List.set_cons_succ]
                    refine wpAnyH_take (i := 9) (oi := { dst := some 233, op := Op.extract (Operand.tmp 224) 0, type := 3, pos := "law.go:527", after := #[{ on := 8, ground := Ground.data }], guard := none }) (v := ?_) rfl (by kernel_rfl) (by kernel_rfl) (by kernel_rfl) (fun _ _ _ h => h) (Or.inl ⟨by rfl, ?_⟩) (by assumption) ?_
                    rotate_left
                    · (intro w hSw; (try dsimp only at hSw); go_simp); all_goals (with_reducible rfl)
                    try simp only [Act.put, List.setIfInBounds_toArray, List.set_cons_zero, List.set_cons_succ]
                    refine wpAnyH_take (i := 10) (oi := { dst := some 234, op := Op.extract (Operand.tmp 224) 1, type := 26, pos := "law.go:527", after := #[{ on := 8, ground := Ground.data }, { on := 11, ground := Ground.gcOnly Departure.lateStores }], guard := none }) (v := ?_) rfl (by kernel_rfl) (by kernel_rfl) (by kernel_rfl) (fun _ _ _ h => h) (Or.inl ⟨by rfl, ?_⟩) (by assumption) ?_
                    rotate_left
                    · (intro w hSw; (try dsimp only at hSw); go_simp); all_goals (with_reducible rfl)
                    try simp only [Act.put, List.setIfInBounds_toArray, List.set_cons_zero, List.set_cons_succ]
                    refine wpAnyH_take (i := 11) (oi := { dst := some 23, op := Op.assign (Operand.tmp 233), type := 3, pos := "law.go:527", after := #[{ on := 9, ground := Ground.data }, { on := 7, ground := Ground.chain }, { on := 0, ground := Ground.phase }, { on := 1, ground := Ground.phase }, { on := 2, ground := Ground.phase }, { on := 3, ground := Ground.phase }, { on := 4, ground := Ground.phase }, { on := 5, ground := Ground.phase }, { on := 6, ground := Ground.phase }, { on := 7, ground := Ground.phase }, { on := 8, ground := Ground.phase }, { on := 9, ground := Ground.phase }, { on := 10, ground := Ground.textOnly Departure.lateStores }], guard := none }) (v := ?_) rfl (by kernel_rfl) (by kernel_rfl) (by kernel_rfl) (fun _ _ _ h => h) (Or.inl ⟨by rfl, ?_⟩) (by assumption) ?_
                    rotate_left
                    · (intro w hSw; (try dsimp only at hSw); go_simp); all_goals (with_reducible rfl)
                    try simp only [Act.put, List.setIfInBounds_toArray, List.set_cons_zero, List.set_cons_succ]
                    refine wpAnyH_take (i := 12) (oi := { dst := some 24, op := Op.assign (Operand.tmp 234), type := 26, pos := "law.go:527", after := #[{ on := 10, ground := Ground.data }, { on := 11, ground := Ground.chain }, { on := 0, ground := Ground.phase }, { on := 1, ground := Ground.phase }, { on := 2, ground := Ground.phase }, { on := 3, ground := Ground.phase }, { on := 4, ground := Ground.phase }, { on := 5, ground := Ground.phase }, { on := 6, ground := Ground.phase }, { on := 7, ground := Ground.phase }, { on := 8, ground := Ground.phase }, { on := 9, ground := Ground.phase }, { on := 10, ground := Ground.phase }, { on := 11, ground := Ground.phase }], guard := none }) (v := ?_) rfl (by kernel_rfl) (by kernel_rfl) (by kernel_rfl) (fun _ _ _ h => h) (Or.inl ⟨by rfl, ?_⟩) (by assumption) ?_
                    rotate_left
                    · (intro w hSw; (try dsimp only at hSw); go_simp); all_goals (with_reducible rfl)
                    try simp only [Act.put, List.setIfInBounds_toArray, List.set_cons_zero, List.set_cons_succ]
                    refine wpAnyH_done (by kernel_rfl) ?_ _
                    go_wp2_with fail
                    go_meet
                    exact ⟨rfl, rfl, hbk⟩
                  exact AllReadyH.nil
                exact AllReadyH.nil
              case rest =>
              clear hbc
              obtain ⟨rfl, rfl, hbc⟩ := hcut
              go_wp2_with fail
              go_cut [25, 26] from 235 to 247 (fun s25 s26 wx => s25 = .int .i64 V3 ∧ s26 = .int .i64 0 ∧ Below W12.heap.size W12 wx)
              case first =>
                have hbk : Below W12.heap.size W12 wc.drew := hbc.drew
                have c1 := HC3.out
                refine wp_region_held_drew (S := (fun W => Below W12.heap.size W12 W)) (by kernel_rfl) ?_ (fun hHeld => ?_)
                · (try dsimp only)
                  exact hbk
                refine wpAnyH_take (i := 0) (oi := { dst := some 236, op := Op.move (Operand.tmp 3), type := 86, pos := "law.go:528", after := #[], guard := none }) (v := ?_) rfl (by kernel_rfl) (by kernel_rfl) (by kernel_rfl) (fun _ _ _ h => h) (Or.inl ⟨by rfl, ?_⟩) (by assumption) ?_
                rotate_left
                · (intro w hSw; (try dsimp only at hSw); go_simp); all_goals (with_reducible rfl)
                try simp only [Act.put, List.setIfInBounds_toArray, List.set_cons_zero, List.set_cons_succ]
                refine wpAnyH_take (i := 1) (oi := { dst := some 237, op := Op.indexAddr 86 (Operand.tmp 236) (Operand.const (Value.int IntKind.i64 0)), type := 0, pos := "law.go:528", after := #[{ on := 0, ground := Ground.data }], guard := none }) (v := ?_) rfl (by kernel_rfl) (by kernel_rfl) (by kernel_rfl) (fun _ _ _ h => h) (Or.inl ⟨by rfl, ?_⟩) (by assumption) ?_
                rotate_left
                · (intro w hSw; (try dsimp only at hSw); go_simp); all_goals (with_reducible rfl)
                try simp only [Act.put, List.setIfInBounds_toArray, List.set_cons_zero, List.set_cons_succ]
                refine wpAnyH_take (i := 2) (oi := { dst := some 238, op := Op.load 92 (Operand.tmp 237), type := 92, pos := "law.go:528", after := #[{ on := 1, ground := Ground.data }], guard := none }) (v := ?_) rfl (by kernel_rfl) (by kernel_rfl) (by kernel_rfl) (fun _ _ _ h => h) (Or.inl ⟨by rfl, ?_⟩) (by assumption) ?_
                rotate_left
                · (intro w hSw; have a0 := (hSw.cell (cell_under (P0.out 0 _ rfl))).trans (P0.out 0 _ rfl); have a1 := (hSw.cell (cell_under (P0.out 1 _ rfl))).trans (P0.out 1 _ rfl); have a2 := (hSw.cell (cell_under (P0.out 2 _ rfl))).trans (P0.out 2 _ rfl); have a3 := (hSw.cell (cell_under (P0.out 3 _ rfl))).trans (P0.out 3 _ rfl); have a4 := (hSw.cell (cell_under (P0.out 4 _ rfl))).trans (P0.out 4 _ rfl); have a5 := (hSw.cell (cell_under (P0.out 5 _ rfl))).trans (P0.out 5 _ rfl); try rw [Nat.add_zero] at a0; (try dsimp only at hSw); go_simp); all_goals (with_reducible rfl)
                try simp only [Act.put, List.setIfInBounds_toArray, List.set_cons_zero, List.set_cons_succ]
                refine wpAnyH_take (i := 3) (oi := { dst := some 239, op := Op.move (Operand.tmp 3), type := 86, pos := "law.go:528", after := #[], guard := none }) (v := ?_) rfl (by kernel_rfl) (by kernel_rfl) (by kernel_rfl) (fun _ _ _ h => h) (Or.inl ⟨by rfl, ?_⟩) (by assumption) ?_
                rotate_left
                · (intro w hSw; (try dsimp only at hSw); go_simp); all_goals (with_reducible rfl)
                try simp only [Act.put, List.setIfInBounds_toArray, List.set_cons_zero, List.set_cons_succ]
                refine wpAnyH_take (i := 4) (oi := { dst := some 240, op := Op.move (Operand.tmp 3), type := 86, pos := "law.go:528", after := #[], guard := none }) (v := ?_) rfl (by kernel_rfl) (by kernel_rfl) (by kernel_rfl) (fun _ _ _ h => h) (Or.inl ⟨by rfl, ?_⟩) (by assumption) ?_
                rotate_left
                · (intro w hSw; (try dsimp only at hSw); go_simp); all_goals (with_reducible rfl)
                try simp only [Act.put, List.setIfInBounds_toArray, List.set_cons_zero, List.set_cons_succ]
                refine wpAnyH_ready (rs := [5]) (by kernel_rfl) (by simp) ?_
                refine AllReadyH.cons (o := _) rfl (fun K hK => ?_) ?_
                · -- len
                  go_simp
                  refine hK.out _ _ ?_ (fun hHeld => ?_)
                  · (try dsimp only)
                    exact hbk
                  clear hK K
                  try simp only [Act.put, List.setIfInBounds_toArray, List.set_cons_zero, List.set_cons_succ]
                  refine wpAnyH_take (i := 6) (oi := { dst := some 242, op := Op.binOp BinOp.sub 3 (Operand.tmp 241) (Operand.const (Value.int IntKind.i64 1)) 3, type := 3, pos := "law.go:528", after := #[{ on := 5, ground := Ground.data }], guard := none }) (v := ?_) rfl (by kernel_rfl) (by kernel_rfl) (by kernel_rfl) (fun _ _ _ h => h) (Or.inl ⟨by rfl, ?_⟩) (by assumption) ?_
                  rotate_left
                  · (intro w hSw; (try dsimp only at hSw); go_simp); all_goals (with_reducible rfl)
                  try simp only [Act.put, List.setIfInBounds_toArray, List.set_cons_zero, List.set_cons_succ]
                  refine wpAnyH_take (i := 7) (oi := { dst := some 243, op := Op.indexAddr 86 (Operand.tmp 239) (Operand.tmp 242), type := 0, pos := "law.go:528", after := #[{ on := 3, ground := Ground.data }, { on := 6, ground := Ground.data }], guard := none }) (v := ?_) rfl (by kernel_rfl) (by kernel_rfl) (by kernel_rfl) (fun _ _ _ h => h) (Or.inl ⟨by rfl, ?_⟩) (by assumption) ?_
                  rotate_left
                  · (intro w hSw; (try dsimp only at hSw); go_simp); all_goals (with_reducible rfl)
                  try simp only [Act.put, List.setIfInBounds_toArray, List.set_cons_zero, List.set_cons_succ]
                  refine wpAnyH_take (i := 8) (oi := { dst := some 244, op := Op.load 92 (Operand.tmp 243), type := 92, pos := "law.go:528", after := #[{ on := 7, ground := Ground.data }], guard := none }) (v := ?_) rfl (by kernel_rfl) (by kernel_rfl) (by kernel_rfl) (fun _ _ _ h => h) (Or.inl ⟨by rfl, ?_⟩) (by assumption) ?_
                  rotate_left
                  · (intro w hSw; have b0 := (hSw.cell (cell_under (PR.out 0 _ rfl))).trans (PR.out 0 _ rfl); have b1 := (hSw.cell (cell_under (PR.out 1 _ rfl))).trans (PR.out 1 _ rfl); have b2 := (hSw.cell (cell_under (PR.out 2 _ rfl))).trans (PR.out 2 _ rfl); have b3 := (hSw.cell (cell_under (PR.out 3 _ rfl))).trans (PR.out 3 _ rfl); have b4 := (hSw.cell (cell_under (PR.out 4 _ rfl))).trans (PR.out 4 _ rfl); have b5 := (hSw.cell (cell_under (PR.out 5 _ rfl))).trans (PR.out 5 _ rfl); rw [Nat.add_zero] at b0; (try dsimp only at hSw); go_simp); all_goals (with_reducible rfl)
                  try simp only [Act.put, List.setIfInBounds_toArray, List.set_cons_zero, List.set_cons_succ]
                  refine wpAnyH_ready (rs := [9]) (by kernel_rfl) (by simp) ?_
                  refine AllReadyH.cons (o := _) rfl (fun K hK => ?_) ?_
                  · -- 47
                    (go_simp; refine Calls.mono (c1 _) ?_; rintro e W ⟨rfl, hk⟩; replace hbk := hbk.trans (hk.mono hbk.size); clear hk)
                    refine hK.out _ _ ?_ (fun hHeld => ?_)
                    · (try dsimp only)
                      exact hbk
                    clear hK K
                    try simp only [Act.put, List.setIfInBounds_toArray, List.set_cons_zero, List.set_cons_succ]
                    refine wpAnyH_take (i := 10) (oi := { dst := some 235, op := Op.move (Operand.tmp 245), type := 90, pos := "law.go:528", after := #[{ on := 9, ground := Ground.data }], guard := none }) (v := ?_) rfl (by kernel_rfl) (by kernel_rfl) (by kernel_rfl) (fun _ _ _ h => h) (Or.inl ⟨by rfl, ?_⟩) (by assumption) ?_
                    rotate_left
                    · (intro w hSw; (try dsimp only at hSw); go_simp); all_goals (with_reducible rfl)
                    try simp only [Act.put, List.setIfInBounds_toArray, List.set_cons_zero, List.set_cons_succ]
                    refine wpAnyH_take (i := 11) (oi := { dst := some 246, op := Op.extract (Operand.tmp 235) 0, type := 3, pos := "law.go:528", after := #[{ on := 10, ground := Ground.data }], guard := none }) (v := ?_) rfl (by kernel_rfl) (by kernel_rfl) (by kernel_rfl) (fun _ _ _ h => h) (Or.inl ⟨by rfl, ?_⟩) (by assumption) ?_
                    rotate_left
                    · (intro w hSw; (try dsimp only at hSw); go_simp); all_goals (with_reducible rfl)
                    try simp only [Act.put, List.setIfInBounds_toArray, List.set_cons_zero, List.set_cons_succ]
                    refine wpAnyH_take (i := 12) (oi := { dst := some 247, op := Op.extract (Operand.tmp 235) 1, type := 26, pos := "law.go:528", after := #[{ on := 10, ground := Ground.data }, { on := 13, ground := Ground.gcOnly Departure.lateStores }], guard := none }) (v := ?_) rfl (by kernel_rfl) (by kernel_rfl) (by kernel_rfl) (fun _ _ _ h => h) (Or.inl ⟨by rfl, ?_⟩) (by assumption) ?_
                    rotate_left
                    · (intro w hSw; (try dsimp only at hSw); go_simp); all_goals (with_reducible rfl)
                    try simp only [Act.put, List.setIfInBounds_toArray, List.set_cons_zero, List.set_cons_succ]
                    refine wpAnyH_take (i := 13) (oi := { dst := some 25, op := Op.assign (Operand.tmp 246), type := 3, pos := "law.go:528", after := #[{ on := 11, ground := Ground.data }, { on := 9, ground := Ground.chain }, { on := 0, ground := Ground.phase }, { on := 1, ground := Ground.phase }, { on := 2, ground := Ground.phase }, { on := 3, ground := Ground.phase }, { on := 4, ground := Ground.phase }, { on := 5, ground := Ground.phase }, { on := 6, ground := Ground.phase }, { on := 7, ground := Ground.phase }, { on := 8, ground := Ground.phase }, { on := 9, ground := Ground.phase }, { on := 10, ground := Ground.phase }, { on := 11, ground := Ground.phase }, { on := 12, ground := Ground.textOnly Departure.lateStores }], guard := none }) (v := ?_) rfl (by kernel_rfl) (by kernel_rfl) (by kernel_rfl) (fun _ _ _ h => h) (Or.inl ⟨by rfl, ?_⟩) (by assumption) ?_
                    rotate_left
                    · (intro w hSw; (try dsimp only at hSw); go_simp); all_goals (with_reducible rfl)
                    try simp only [Act.put, List.setIfInBounds_toArray, List.set_cons_zero, List.set_cons_succ]
                    refine wpAnyH_take (i := 14) (oi := { dst := some 26, op := Op.assign (Operand.tmp 247), type := 26, pos := "law.go:528", after := #[{ on := 12, ground := Ground.data }, { on := 13, ground := Ground.chain }, { on := 0, ground := Ground.phase }, { on := 1, ground := Ground.phase }, { on := 2, ground := Ground.phase }, { on := 3, ground := Ground.phase }, { on := 4, ground := Ground.phase }, { on := 5, ground := Ground.phase }, { on := 6, ground := Ground.phase }, { on := 7, ground := Ground.phase }, { on := 8, ground := Ground.phase }, { on := 9, ground := Ground.phase }, { on := 10, ground := Ground.phase }, { on := 11, ground := Ground.phase }, { on := 12, ground := Ground.phase }, { on := 13, ground := Ground.phase }], guard := none }) (v := ?_) rfl (by kernel_rfl) (by kernel_rfl) (by kernel_rfl) (fun _ _ _ h => h) (Or.inl ⟨by rfl, ?_⟩) (by assumption) ?_
                    rotate_left
                    · (intro w hSw; (try dsimp only at hSw); go_simp); all_goals (with_reducible rfl)
                    try simp only [Act.put, List.setIfInBounds_toArray, List.set_cons_zero, List.set_cons_succ]
                    refine wpAnyH_done (by kernel_rfl) ?_ _
                    go_wp2_with fail
                    go_meet
                    exact ⟨rfl, rfl, hbk⟩
                  exact AllReadyH.nil
                exact AllReadyH.nil
              case rest =>
              clear hbc
              obtain ⟨rfl, rfl, hbc⟩ := hcut
              have hblf := hbl.trans (hbc.mono hbl.size)
              clear hbc hbl hx14
              go_wp2_with fail
              go_roundw
              case rel => exact ⟨i + 1, by omega, by go_num, ⟨_, _, _, ⟨rfl, rfl, rfl⟩, HNX⟩, hblf⟩
              case measure => simp [numOf'] <;> omega
        · obtain rfl : i = M := by omega
          have hii : ¬ (i : Int) < (i : Int) := by omega
          have hall : S.take i = S := List.take_of_length_le (by rw [HM.out]; exact Nat.le_refl _)
          obtain ⟨e1, e2, e3⟩ := HSUM.out
          rw [hall, sumS_perm _ HF.out.2.1, ← HF.out.1, sum_games] at e1
          rw [hall, sumS_perm _ HF.out.2.1, ← HF.out.1, sum_wins] at e2
          rw [hall, sumS_perm _ HF.out.2.1, ← HF.out.1, sum_runs] at e3
          clear hall HSUM
          subst e1 e2 e3
          have hbf := hb.trans (hbl.mono hb.size)
          have q1 : ((2 * (n : Int)) == 2 * (n : Int)) = true := by simp
          clear hb hbl
          go_wp2_with fail
          go_ret
          exact ⟨rfl, hbf⟩
end Go.Proofs.Tryz
