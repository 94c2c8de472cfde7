/- The season's standings: by the kit's walk. -/
import Derived.Test.YtbfonnoebbjenaaGreatDoorAxSh
import Derived.Test.YtbfonnoebbjenaaGreatDoorAxK
import Derived.Test.YtbfonnoebbjenaaGreatDoorAxTc
namespace Go.Proofs.Tryz
open Go Go.Am Go.RowKit Go.Op Go.Maps Go.WideMaps
set_option maxRecDepth 100000

theorem fstE_all : ∀ {l : List Int}, fstE l = 0 → ∀ x ∈ l, x = 0
  | [], _, x, hx => absurd hx List.not_mem_nil
  | y :: r, h, x, hx => by
    unfold fstE at h
    split at h
    · rename_i q
      rcases List.mem_cons.1 hx with e | e
      · rw [e]; exact q
      · exact fstE_all h x e
    · rename_i q; exact absurd h q
theorem inE_in {n lo hi : Int} (h : inE n lo hi = 0) : lo ≤ n ∧ n ≤ hi := by
  unfold inE at h
  split at h
  · cases h
  · omega
theorem nmE_nm {l : List UInt8} (h : nmE l = 0) : isNm l = true := by
  unfold nmE at h
  split at h
  · assumption
  · cases h
/-- What a valid game holds. -/
theorem gmE_head {g : GmD} (h : gmE g = 0) : isNm g.nm = true ∧ (1 ≤ g.ver ∧ g.ver ≤ 999999999) ∧ (0 ≤ g.day ∧ g.day ≤ 99999) ∧ isNm g.t0 = true ∧ isNm g.t1 = true ∧ g.t0 ≠ g.t1 ∧ ScOk g ∧ g.k ≤ 60 := by
  unfold gmE at h
  split at h
  · rename_i hq
    have hall := fstE_all hq
    unfold headL at hall
    refine ⟨nmE_nm (hall _ (by simp)), inE_in (hall (inE g.ver 1 999999999) (by simp)), inE_in (hall (inE g.day 0 99999) (by simp)), nmE_nm (hall (nmE g.t0) (by simp)), nmE_nm (hall (nmE g.t1) (by simp)), fun e => ?_, ⟨inE_in (hall (inE g.s0 0 999) (by simp)), inE_in (hall (inE g.s1 0 999) (by simp))⟩, ?_⟩
    · have := hall (if g.t0 = g.t1 then 9 else 0) (by simp)
      rw [if_pos e] at this
      cases this
    · have := hall (if 60 < g.k then 5 else 0) (by simp)
      split at this
      · cases this
      · omega
  · rename_i hq; exact absurd h hq
theorem isNm_len {l : List UInt8} (h : isNm l = true) : l.length ≤ 1000 := Nat.le_trans (isNm_iff.1 h).2.1 (by decide)
theorem idx2_0 (a b : Value) (W : World) : (Instr.index 82 (.agg #[a, b]) (.int .i64 0)).run prog W = .ok a W := by
  unfold Instr.index
  simp [go_sem, run_underlying (show prog.underlying 82 = some (.array 2 9) by kernel_rfl)]
theorem idx2_1 (a b : Value) (W : World) : (Instr.index 82 (.agg #[a, b]) (.int .i64 1)).run prog W = .ok b W := by
  unfold Instr.index
  simp [go_sem, run_underlying (show prog.underlying 82 = some (.array 2 9) by kernel_rfl)]
theorem ptr_nil (o : Option Nat) (W : World) : (binOp .eql 178 (ptrV o) (.pointer none)).run prog W = .ok (.bool o.isNone) W := by
  cases o with
  | none => kernel_rfl
  | some b => simp [ptrV, go_sem]; try kernel_rfl
theorem ptr_grd (o : Option Nat) (x y : Operand) (W : World) : (eqGuard .eql 178 x y (ptrV o) (.pointer none)).run prog W = .ok () W := by
  cases o <;> simp [eqGuard, ptrV]
def MapE (w : World) (mb m B : Nat) (L : List Std) : Prop := ∃ (k : Nat) (blk : List UInt8 → Nat), k ≤ m ∧ MapS w mb k B L blk
theorem MapE.below {w W : World} {mb m B : Nat} {L : List Std} (h : MapE w mb m B L) (hb : Below w.heap.size w W) : MapE W mb m B L := let ⟨k, blk, h1, h2⟩ := h; ⟨k, blk, h1, h2.below hb⟩
def StepS (w : World) (mb m B : Nat) (tm : List UInt8) (ow oth : Int) (q : Nat) (L : List Std) (k1 : Nat) (blk1 : List UInt8 → Nat) (L1 : List Std) (s : Std) : Prop := k1 ≤ m ∧ MapS w mb k1 B L1 blk1 ∧ NamesS L1 ∧ getS tm L1 = some s ∧ SmS q s ∧ bump tm ow oth L1 = bump tm ow oth L
def SideS (B mb : Nat) (g : Nat → GmD) (i : Nat) (s : Value) (wr : World) : Prop := (s = .int .i64 0 ∧ MapE wr mb (2 * i + 0) B (stdsK g i)) ∨ (s = .int .i64 1 ∧ MapE wr mb (2 * i + 0 + 1) B (bump (g i).t0 (g i).s0 (g i).s1 (stdsK g i))) ∨ (s = .int .i64 2 ∧ MapE wr mb (2 * i + 1 + 1) B (stdsK g (i + 1)))
/-- What Standings hands back. -/
def StdAns (W : World) (base : Nat) (u : Value) (g : Nat → GmD) (n : Nat) : Prop := (bookE g n = 0 → ∃ S, S.Perm (stdsK g n) ∧ SortS S ∧ OwnRow W base 92 6 u (S.map Std.cells)) ∧ (bookE g n ≠ 0 → u = .slice none 0 0)
set_option maxHeartbeats 12800000 in
theorem standings_w {w : World} {g : Nat → GmD} {n : Nat} {v : Value} (h : IsGames w v g n) (hn : n ≤ 66) (hk : ∀ i, i < n → (g i).k ≤ 62 ∧ (g i).nm.length ≤ 60) :
    Calls prog 45 #[.agg #[v]] w fun e w' => (∃ u, e = .returned (.tuple #[u, .int .i64 (bookE g n)]) ∧ StdAns w' w.heap.size u g n) ∧ Below w.heap.size w w' := by
  have HI := Lib.hid h
  obtain ⟨lv, hr, -⟩ := h
  obtain ⟨ad, c, rfl, hnc⟩ := hr.slice
  have hx1 := at_new w #[.slice ad n c] 31
  have hB1 : Below w.heap.size w (w.alloc (.cells #[.slice ad n c] 31)) := (Below.refl _ _).alloc (Nat.le_refl _) _
  obtain ⟨W1, hW1⟩ : ∃ W1, w.alloc (.cells #[.slice ad n c] 31) = W1 := ⟨_, rfl⟩
  rw [hW1] at hx1 hB1
  have c54 := book_w (HI.out.below hB1) (Nat.le_trans hn (by decide)) (fun i hi => ⟨Nat.le_trans (hk i hi).1 (by decide), Nat.le_trans (hk i hi).2 (by decide)⟩)
  have hOK := @bookE_ok g n
  obtain ⟨E, hE⟩ : ∃ E, bookE g n = E := ⟨_, rfl⟩
  rw [hE] at c54 hOK ⊢
  have HE := Lib.hid hE
  obtain ⟨y0, -⟩ := box1 hx1
  have hmm := @run_makeMap prog
  clear hr hk hE
  go_enter func45, ntmps45
  go_wp2_with fail
  try rw [hW1]
  clear hW1
  go_wp2_with fail
  go_at_call 54
  refine c54.mono ?_
  rintro e W2 ⟨rfl, hb2⟩
  have hx2 := hx1.below hb2 hx1.lt
  have hB2 := hB1.trans (hb2.mono hB1.size)
  clear c54 hb2 hB1 hx1 y0
  by_cases hE0 : E = 0
  · have HG : Hid (IsGames w (.slice ad n c) g n ∧ ∀ i, i < n → ScOk (g i) ∧ (g i).t0.length ≤ 1000 ∧ (g i).t1.length ≤ 1000) := Lib.hid ⟨HI.out, fun i hi => by
      have h1 := gmE_head ((hOK hE0).2 i hi)
      exact ⟨h1.2.2.2.2.2.2.1, isNm_len h1.2.2.2.1, isNm_len h1.2.2.2.2.1⟩⟩
    have HE0 : Hid (bookE g n = 0) := Lib.hid (by rw [HE.out, hE0])
    subst hE0
    have HM0 : Hid (MapE (W2.alloc (.map #[] 0)) W2.heap.size (2 * 0) w.heap.size (stdsK g 0)) := Lib.hid ⟨0, _, Nat.zero_le _, MapS.made W2 w.heap.size⟩
    have hal : Below W2.heap.size W2 (W2.alloc (.map #[] 0)) := (Below.refl _ _).alloc (Nat.le_refl _) _
    have hx3 := hx2.below hal hx2.lt
    have hB3 := hB2.trans (hal.mono hB2.size)
    have hmb0 : w.heap.size ≤ W2.heap.size := hB2.size
    obtain ⟨W3, hW3⟩ : ∃ W3, W2.alloc (.map #[] 0) = W3 := ⟨_, rfl⟩
    rw [hW3] at HM0 hx3 hB3
    obtain ⟨mb, hmb⟩ : ∃ mb, W2.heap.size = mb := ⟨_, rfl⟩
    rw [hmb] at HM0 hmb0
    obtain ⟨y0, -⟩ := box1 hx3
    clear hal hx2 hB2 hOK HE hx3
    go_upto_block 0 with fail
    try rw [hW3]
    try rw [hmb]
    clear hW3 hmb
    go_cut [] from 22 to 56 (fun wx => Hid (MapE wx mb (2 * n) w.heap.size (stdsK g n)) ∧ Below w.heap.size w wx)
    case first =>
      go_wp2_with fail
      clear y0
      go_loopw [22] (fun s22 wr => ∃ i : Nat, i ≤ n ∧ s22 = .int .i64 i ∧ Hid (MapE wr mb (2 * i) w.heap.size (stdsK g i)) ∧ Below w.heap.size w wr) (fun s22 _ => n - (numOf' s22).toNat)
      case atStart => exact ⟨0, Nat.zero_le _, rfl, HM0, hB3⟩
      case round =>
        clear HM0 hB3
        obtain ⟨i, hi, rfl, HMI, hb⟩ := hrel
        by_cases hin : i < n
        · have hii : (i : Int) < (n : Int) := by omega
          obtain ⟨bb, off, c1, a1, kc, e, -, -, p0, p1, p2, p3, p4, p5, p6, p7⟩ := HG.out.1.at hin
          simp only [Value.slice.injEq, true_and] at e
          obtain ⟨rfl, rfl⟩ := e
          replace p0 := (hb.cell (cell_under p0)).trans p0
          replace p1 := (hb.cell (cell_under p1)).trans p1
          replace p2 := (hb.cell (cell_under p2)).trans p2
          replace p3 := (hb.cell (cell_under p3)).trans p3
          replace p4 := (hb.cell (cell_under p4)).trans p4
          replace p5 := (hb.cell (cell_under p5)).trans p5
          replace p6 := (hb.cell (cell_under p6)).trans p6
          replace p7 := (hb.cell (cell_under p7)).trans p7
          have hok := HG.out.2 i hin
          obtain ⟨hsc, htl0, htl1⟩ := hok
          have hinv00 := InvS.all (g := g) (n := i) fun j hj => (HG.out.2 j (by omega)).1
          have hinv0 : InvS (2 * i + 1) (stdsK g i) := hinv00.mono (by omega)
          have hinv1 : InvS (2 * i + 1) (bump (g i).t0 (g i).s0 (g i).s1 (stdsK g i)) := hinv00.bump _ hsc.1 hsc.2
          have hal : Below wr.heap.size wr (wr.alloc (.cells ((g i).arr (.slice a1 (g i).k kc)) 110)) := (Below.refl _ _).alloc (Nat.le_refl _) _
          have hx7 := at_new wr ((g i).arr (.slice a1 (g i).k kc)) 110
          obtain ⟨W6, hW6⟩ : ∃ W6, wr.alloc (.cells ((g i).arr (.slice a1 (g i).k kc)) 110) = W6 := ⟨_, rfl⟩
          rw [hW6] at hal hx7
          have hm0 : MapE W6 mb (2 * i) w.heap.size (stdsK g i) := HMI.out.below hal
          have hb6 := hb.trans (hal.mono hb.size)
          have hx7u := hx7
          unfold GmD.arr at hW6 hx7u
          obtain ⟨⟨x0, x1, x2, x3, x4, x5, x6, x7⟩, -⟩ := box8 hx7u
          clear hinv00 HMI hb hal hx7u
          go_wp2_with fail
          try rw [hW6]
          clear hW6 p0 p1 p2 p3 p4 p5 p6 p7 x0 x1 x2 x5 x6 x7
          clear x3 x4
          obtain ⟨B7, hB7⟩ : ∃ B7, wr.heap.size = B7 := ⟨_, rfl⟩
          rw [hB7] at hx7 ⊢
          clear hB7
          go_loopw [28] (fun s28 wx => ∃ q : Nat, 0 ≤ q ∧ SideS w.heap.size mb g i s28 wx ∧ At wx B7 ((g i).arr (.slice a1 (g i).k kc)) 110 ∧ Below w.heap.size w wx) (fun s28 _ => 2 - (numOf' s28).toNat)
          case atStart => exact ⟨0, Nat.zero_le _, Or.inl ⟨rfl, hm0⟩, hx7, hb6⟩
          case round =>
            clear hm0 hx7 hb6
            obtain ⟨_, -, hcase, hx7, hb⟩ := hrel
            unfold SideS at hcase
            rcases hcase with ⟨rfl, hmap⟩ | ⟨rfl, hmap⟩ | ⟨rfl, hmap⟩
            · clear hinv1
              obtain ⟨tm, htm⟩ : ∃ x, (g i).t0 = x := ⟨_, rfl⟩
              obtain ⟨ow, how⟩ : ∃ x, (g i).s0 = x := ⟨_, rfl⟩
              obtain ⟨oth, hoth⟩ : ∃ x, (g i).s1 = x := ⟨_, rfl⟩
              obtain ⟨L, hL⟩ : ∃ L, stdsK g i = L := ⟨_, rfl⟩
              have HSC : Hid ((0 ≤ ow ∧ ow ≤ 999) ∧ 0 ≤ oth ∧ oth ≤ 999) := Lib.hid (by rw [← how, ← hoth]; exact hsc)
              have htl : tm.length ≤ 1000 := by rw [← htm]; exact htl0
              have HINV : Hid (InvS (2 * i + 1) L) := Lib.hid (by rw [← hL]; exact hinv0)
              have HNX : Hid (bump (g i).t0 (g i).s0 (g i).s1 (stdsK g i) = bump tm ow oth L) := Lib.hid (by subst htm how hoth hL; rfl)
              have HX7 : Hid (∀ W, At W B7 ((g i).arr (.slice a1 (g i).k kc)) 110 → W.cell? ⟨B7, 5, none⟩ = some (.int .i64 ow) ∧ W.cell? ⟨B7, 6, none⟩ = some (.int .i64 oth)) := Lib.hid fun W h => by
                obtain ⟨⟨b0, b1, b2, b3, b4, b5, b6, b7⟩, -⟩ := box8 h
                rw [← how, ← hoth]
                exact ⟨b5, b6⟩
              rw [hL] at hmap
              obtain ⟨kk, blk, hkk, hM⟩ := hmap
              have hlook := mapS_look hM (p := tm) (Nat.le_trans htl (by decide))
              have hwm : mb < wr.heap.size := by obtain ⟨⟨D, h1, -⟩, -, -⟩ := hM; exact h1.lt
              obtain ⟨PO, hPO⟩ : ∃ o, (if hasS tm L = true then some (blk tm) else none) = o := ⟨_, rfl⟩
              have hnil := ptr_nil PO
              have hgrd := ptr_grd PO
              have hix := idx2_0 (.string (bA (g i).t0)) (.string (bA (g i).t1))
              have HB : Hid (PO.isNone = !hasS tm L) := Lib.hid (by rw [← hPO]; cases hasS tm L <;> rfl)
              rw [hPO] at hlook
              generalize PO.isNone = NB at hnil HB
              generalize ptrV PO = PV at hlook hnil hgrd
              have HM := Lib.hid hM
              have HX := Lib.hid hx7
              simp only [htm] at hix ⊢
              clear how hoth hL hM hPO htm
              generalize wr = WS at hb hlook hwm HM HX ⊢
              go_upto_if 35 with fail
              clear hlook hnil hgrd hix
              go_cut [35] from 36 to 54 (fun s35 wx => ∃ (k1 : Nat) (blk1 : List UInt8 → Nat) (L1 : List Std) (s : Std), Hid (StepS wx mb (2 * i + 0 + 1) w.heap.size tm ow oth (2 * i + 1) L k1 blk1 L1 s) ∧ Hid (At wx B7 ((g i).arr (.slice a1 (g i).k kc)) 110) ∧ Below w.heap.size w wx)
              case first =>
                cases NB with
                | false =>
                  have hh : hasS tm L = true := by
                    have := HB.out
                    cases hq : hasS tm L with
                    | true => rfl
                    | false => rw [hq] at this; cases this
                  obtain ⟨s, hs⟩ := Option.isSome_iff_exists.1 (show (getS tm L).isSome = true from hh)
                  have HR : Hid (StepS WS mb (2 * i + 0 + 1) w.heap.size tm ow oth (2 * i + 1) L kk blk L s) := Lib.hid ⟨by omega, HM.out, HINV.out.names, hs, HINV.out.small s (getS_some hs).1, rfl⟩
                  clear hh hs HB
                  go_wp2_with fail
                  go_meet
                  exact ⟨kk, blk, L, s, HR, HX, hb⟩
                | true =>
                  have hh : hasS tm L = false := by
                    have := HB.out
                    cases hq : hasS tm L with
                    | false => rfl
                    | true => rw [hq] at this; cases this
                  obtain ⟨⟨D, hown, hD⟩, hbx, hij⟩ := HM.out
                  have hal : Below WS.heap.size WS (WS.alloc (.cells (zeroS tm).arr 92)) := (Below.refl _ _).alloc (Nat.le_refl _) _
                  have hxn := at_new WS (zeroS tm).arr 92
                  have hM1 := HM.out.below hal
                  have hown1 := hown.kept (row := none) ⟨hal.os, hal.tape, hal.output, hal.size, fun k hk _ => hal.block k hk⟩ (by simp)
                  have hfr : ∀ s ∈ L, blk s.t ≠ WS.heap.size := fun s hs e => by have := (hbx s hs).1.lt; omega
                  have hb1 := hb.trans (hal.mono hb.size)
                  have HX1 := Lib.hid (At.below HX.out hal HX.out.lt)
                  have hkl : keyOf prog 9 (.string (bA tm)) = some (.string tm) := by
                    rw [keyOf_string_mk (by kernel_rfl) (by rw [bA_size]; exact Nat.le_trans htl (by decide))]; rfl
                  have Hkl := Lib.hid hkl
                  have Hown := Lib.hid hown1
                  have hwmb : w.heap.size ≤ WS.heap.size := hb.size
                  have HN := Lib.hid (fun w1 ho hg => MapS.name (w1 := w1) hD hM1 hxn hwmb hfr hh ho hg)
                  have HG1 := Lib.hid (And.intro (getS_more hh) (And.intro (names_more HINV.out.names hh) (bump_has (o := ow) (g := oth) hh)))
                  obtain ⟨W5, hW5⟩ : ∃ W5, WS.alloc (.cells (zeroS tm).arr 92) = W5 := ⟨_, rfl⟩
                  rw [hW5] at hb1 HX1 Hown HN
                  have HKK := Lib.hid hkk
                  unfold Std.arr zeroS at hW5
                  clear hown hD hbx hij hal hxn hM1 hown1 hfr hkl hh HB
                  go_wp2_with (first
                    | (at_mapUpdate; (try rw [hW5]); refine wpList_mapUpdate_own _ rfl _ _ _ 177 rfl 9 178 (string_keyed (by kernel_rfl)) (by kernel_rfl) _ mb kk _ rfl Hown.out (by unfold maxLen; omega) _ _ _ rfl rfl Hkl.out (.held (ptrV (some WS.heap.size))) [] (held_ptr (some WS.heap.size)) ?_; intro w1 hown1 hgrow1; go_frame)
                    | fail)
                  have hM9 := HN.out w1 hown1 hgrow1
                  have HR : Hid (StepS w1 mb (2 * i + 0 + 1) w.heap.size tm ow oth (2 * i + 1) L (kk + 1) (fun q => if q = tm then WS.heap.size else blk q) (L ++ [zeroS tm]) (zeroS tm)) := Lib.hid ⟨Nat.succ_le_succ HKK.out, hM9, HG1.out.2.1, HG1.out.1, SmS.zero _ _, HG1.out.2.2⟩
                  have HX9 : Hid (At w1 B7 ((g i).arr (.slice a1 (g i).k kc)) 110) := Lib.hid ((hgrow1.block _ HX1.out.lt (fun e => by
                    obtain ⟨es, clock, h1, -⟩ := Hown.out
                    have h2 : At W5 B7 _ 110 := HX1.out
                    unfold At at h2
                    have e2 : B7 = mb := by cases e; rfl
                    rw [e2, h1] at h2
                    cases h2)).trans HX1.out)
                  have hb9 : Below w.heap.size w w1 := hb1.grown hgrow1 hb1.size (fun q hq => by cases hq; exact hmb0)
                  clear hM9 hown1 hgrow1 HN HG1 HX1 hb1
                  go_wp2_with fail
                  go_meet
                  exact ⟨_, _, _, _, HR, HX9, hb9⟩
              case rest =>
              clear hb HM HX
              obtain ⟨k1, blk1, L1, s, HR, HX, hb⟩ := hcut
              generalize wc = WS2 at HR HX hb ⊢
              have hlk : ∀ W, Below WS2.heap.size WS2 W → (Instr.lookup 177 (.map (some mb)) (.string (bA tm)) false).run prog W = .ok (.pointer (some ⟨blk1 tm, 0, none⟩)) W := fun W hW => by
                have := mapS_look (HR.out.2.1.below hW) (p := tm) (Nat.le_trans htl (by decide))
                have hh : hasS tm L1 = true := by unfold hasS; rw [HR.out.2.2.2.1]; rfl
                rw [if_pos hh] at this
                exact this
              have HLK := Lib.hid hlk
              have hdr : Below WS2.heap.size WS2 WS2.drew := (Below.refl _ _).drew
              have cA : ∀ W, Below WS2.heap.size WS2 W → Calls prog 114 #[.pointer (some ⟨blk1 tm, 0, none⟩), .int .i64 ow, .int .i64 oth] W _ := fun W hW => by
                obtain ⟨hs1, hs2⟩ := getS_some HR.out.2.2.2.1
                have h1 := ((HR.out.2.1.below hW).box s hs1).1
                rw [hs2] at h1
                exact add114_w h1 HR.out.2.2.2.2.1 (by omega) HSC.out.1 HSC.out.2
              have HFIN : Hid (∀ W w', Below WS2.heap.size WS2 W → At w' (blk1 tm) (addS s ow oth).arr 92 → W.grownBy w' (some (blk1 tm)) → MapE w' mb (2 * i + 0 + 1) w.heap.size (bump (g i).t0 (g i).s0 (g i).s1 (stdsK g i)) ∧ At w' B7 ((g i).arr (.slice a1 (g i).k kc)) 110 ∧ Below w.heap.size w w') := Lib.hid fun W w' hW ha hg => by
                have hMW := HR.out.2.1.below hW
                obtain ⟨hs1, hs2⟩ := getS_some HR.out.2.2.2.1
                have hbo := hMW.box s hs1
                rw [hs2] at hbo
                have h7 := At.below HX.out hW HX.out.lt
                refine ⟨⟨k1, blk1, HR.out.1, ?_⟩, (hg.block _ h7.lt (fun e => ?_)).trans h7, (hb.trans (hW.mono hb.size)).grown hg (hb.trans (hW.mono hb.size)).size (fun q hq => by cases hq; exact hbo.2)⟩
                · rw [HNX.out, ← HR.out.2.2.2.2.2]
                  exact hMW.add HR.out.2.2.1 HR.out.2.2.2.1 ow oth ha hg
                · have e2 : B7 = blk1 tm := by cases e; rfl
                  have h8 := hbo.1
                  unfold At at h7 h8
                  rw [e2, h8] at h7
                  simp at h7
              have wr1 : IntKind.i64.wrap 1 = 1 := by decide
              have wr0 : IntKind.i64.wrap 0 = 0 := by decide
              clear hlk
              go_wp2_with fail
              refine wp_region_quiet_to (C := (fun W => Below WS2.heap.size WS2 W)) 12 1 #[true, true, true, true, true, true, true, true, true, true, true, true, false] (by kernel_rfl) (by kernel_rfl) ?_ ?_
              · (try dsimp only)
                exact hdr
              simp only [List.take_succ_cons, List.take_zero]
              with_reducible refine quiet_take (v := ?_) ?_ ?_ ?_
              rotate_left
              · rfl
              · (intro w hSw; (try dsimp only at hSw); go_simp); all_goals (with_reducible rfl)
              try simp only [Act.put, List.setIfInBounds_toArray, List.set_cons_zero, List.set_cons_succ]
              with_reducible refine quiet_take (v := ?_) ?_ ?_ ?_
              rotate_left
              · rfl
              · (intro w hSw; (try dsimp only at hSw); go_simp); all_goals (with_reducible rfl)
              try simp only [Act.put, List.setIfInBounds_toArray, List.set_cons_zero, List.set_cons_succ]
              with_reducible refine quiet_take (v := ?_) ?_ ?_ ?_
              rotate_left
              · rfl
              · (intro w hSw; have hl := HLK.out _ hSw; (try dsimp only at hSw); go_simp); all_goals (with_reducible rfl)
              try simp only [Act.put, List.setIfInBounds_toArray, List.set_cons_zero, List.set_cons_succ]
              with_reducible refine quiet_take (v := ?_) ?_ ?_ ?_
              rotate_left
              · rfl
              · (intro w hSw; (try dsimp only at hSw); go_simp); all_goals (with_reducible rfl)
              try simp only [Act.put, List.setIfInBounds_toArray, List.set_cons_zero, List.set_cons_succ]
              with_reducible refine quiet_take (v := ?_) ?_ ?_ ?_
              rotate_left
              · rfl
              · (intro w hSw; (try dsimp only at hSw); go_simp); all_goals (with_reducible rfl)
              try simp only [Act.put, List.setIfInBounds_toArray, List.set_cons_zero, List.set_cons_succ]
              with_reducible refine quiet_take (v := ?_) ?_ ?_ ?_
              rotate_left
              · rfl
              · (intro w hSw; (try dsimp only at hSw); go_simp); all_goals (with_reducible rfl)
              try simp only [Act.put, List.setIfInBounds_toArray, List.set_cons_zero, List.set_cons_succ]
              with_reducible refine quiet_take (v := ?_) ?_ ?_ ?_
              rotate_left
              · rfl
              · (intro w hSw; obtain ⟨y5, y6⟩ := HX7.out _ (At.below HX.out hSw HX.out.lt); (try dsimp only at hSw); go_simp); all_goals (with_reducible rfl)
              try simp only [Act.put, List.setIfInBounds_toArray, List.set_cons_zero, List.set_cons_succ]
              with_reducible refine quiet_take (v := ?_) ?_ ?_ ?_
              rotate_left
              · rfl
              · (intro w hSw; (try dsimp only at hSw); go_simp); all_goals (with_reducible rfl)
              try simp only [Act.put, List.setIfInBounds_toArray, List.set_cons_zero, List.set_cons_succ]
              with_reducible refine quiet_take (v := ?_) ?_ ?_ ?_
              rotate_left
              · rfl
              · (intro w hSw; (try dsimp only at hSw); go_simp); all_goals (with_reducible rfl)
              try simp only [Act.put, List.setIfInBounds_toArray, List.set_cons_zero, List.set_cons_succ]
              with_reducible refine quiet_take (v := ?_) ?_ ?_ ?_
              rotate_left
              · rfl
              · (intro w hSw; (try dsimp only at hSw); go_simp); all_goals (with_reducible rfl)
              try simp only [Act.put, List.setIfInBounds_toArray, List.set_cons_zero, List.set_cons_succ]
              with_reducible refine quiet_take (v := ?_) ?_ ?_ ?_
              rotate_left
              · rfl
              · (intro w hSw; (try dsimp only at hSw); go_simp); all_goals (with_reducible rfl)
              try simp only [Act.put, List.setIfInBounds_toArray, List.set_cons_zero, List.set_cons_succ]
              with_reducible refine quiet_take (v := ?_) ?_ ?_ ?_
              rotate_left
              · rfl
              · (intro w hSw; obtain ⟨y5, y6⟩ := HX7.out _ (At.below HX.out hSw HX.out.lt); (try dsimp only at hSw); go_simp); all_goals (with_reducible rfl)
              try simp only [Act.put, List.setIfInBounds_toArray, List.set_cons_zero, List.set_cons_succ]
              refine wpQuiet_nil ?_
              intro W hSw
              refine wpAny_of_held (S := fun _ => True) _ _ _ _ ?_
              refine wpAnyH_ready (rs := [12]) (by kernel_rfl) (by simp) ?_
              refine AllReadyH.cons (o := _) rfl (fun K hK => ?_) ?_
              · -- 114
                go_simp
                refine (cA W hSw).mono ?_; rintro e w' ⟨rfl, ha, hg, -⟩
                refine hK.out _ _ trivial (fun _ => ?_)
                clear hK K
                try simp only [List.setIfInBounds_toArray, List.set_cons_zero, List.set_cons_succ]
                refine wpAnyH_done (by kernel_rfl) ?_ _
                obtain ⟨hmap9, hx9, hb9⟩ := HFIN.out _ _ hSw ha hg
                clear cA HFIN HLK HR HX hSw ha hg hdr hb
                go_wp2_with fail
                go_roundw
                case rel => exact ⟨0, Nat.zero_le _, Or.inr (Or.inl ⟨rfl, hmap9⟩), hx9, hb9⟩
                case measure => simp [numOf']
              exact AllReadyH.nil
            · clear hinv0
              obtain ⟨tm, htm⟩ : ∃ x, (g i).t1 = x := ⟨_, rfl⟩
              obtain ⟨ow, how⟩ : ∃ x, (g i).s1 = x := ⟨_, rfl⟩
              obtain ⟨oth, hoth⟩ : ∃ x, (g i).s0 = x := ⟨_, rfl⟩
              obtain ⟨L, hL⟩ : ∃ L, bump (g i).t0 (g i).s0 (g i).s1 (stdsK g i) = L := ⟨_, rfl⟩
              have HSC : Hid ((0 ≤ ow ∧ ow ≤ 999) ∧ 0 ≤ oth ∧ oth ≤ 999) := Lib.hid (by rw [← how, ← hoth]; exact ⟨hsc.2, hsc.1⟩)
              have htl : tm.length ≤ 1000 := by rw [← htm]; exact htl1
              have HINV : Hid (InvS (2 * i + 1) L) := Lib.hid (by rw [← hL]; exact hinv1)
              have HNX : Hid (stdsK g (i + 1) = bump tm ow oth L) := Lib.hid (by subst htm how hoth hL; rfl)
              have HX7 : Hid (∀ W, At W B7 ((g i).arr (.slice a1 (g i).k kc)) 110 → W.cell? ⟨B7, 6, none⟩ = some (.int .i64 ow) ∧ W.cell? ⟨B7, 5, none⟩ = some (.int .i64 oth)) := Lib.hid fun W h => by
                obtain ⟨⟨b0, b1, b2, b3, b4, b5, b6, b7⟩, -⟩ := box8 h
                rw [← how, ← hoth]
                exact ⟨b6, b5⟩
              rw [hL] at hmap
              obtain ⟨kk, blk, hkk, hM⟩ := hmap
              have hlook := mapS_look hM (p := tm) (Nat.le_trans htl (by decide))
              have hwm : mb < wr.heap.size := by obtain ⟨⟨D, h1, -⟩, -, -⟩ := hM; exact h1.lt
              obtain ⟨PO, hPO⟩ : ∃ o, (if hasS tm L = true then some (blk tm) else none) = o := ⟨_, rfl⟩
              have hnil := ptr_nil PO
              have hgrd := ptr_grd PO
              have hix := idx2_1 (.string (bA (g i).t0)) (.string (bA (g i).t1))
              have HB : Hid (PO.isNone = !hasS tm L) := Lib.hid (by rw [← hPO]; cases hasS tm L <;> rfl)
              rw [hPO] at hlook
              generalize PO.isNone = NB at hnil HB
              generalize ptrV PO = PV at hlook hnil hgrd
              have HM := Lib.hid hM
              have HX := Lib.hid hx7
              simp only [htm] at hix ⊢
              clear how hoth hL hM hPO htm
              generalize wr = WS at hb hlook hwm HM HX ⊢
              go_upto_if 35 with fail
              clear hlook hnil hgrd hix
              go_cut [35] from 36 to 54 (fun s35 wx => ∃ (k1 : Nat) (blk1 : List UInt8 → Nat) (L1 : List Std) (s : Std), Hid (StepS wx mb (2 * i + 1 + 1) w.heap.size tm ow oth (2 * i + 1) L k1 blk1 L1 s) ∧ Hid (At wx B7 ((g i).arr (.slice a1 (g i).k kc)) 110) ∧ Below w.heap.size w wx)
              case first =>
                cases NB with
                | false =>
                  have hh : hasS tm L = true := by
                    have := HB.out
                    cases hq : hasS tm L with
                    | true => rfl
                    | false => rw [hq] at this; cases this
                  obtain ⟨s, hs⟩ := Option.isSome_iff_exists.1 (show (getS tm L).isSome = true from hh)
                  have HR : Hid (StepS WS mb (2 * i + 1 + 1) w.heap.size tm ow oth (2 * i + 1) L kk blk L s) := Lib.hid ⟨by omega, HM.out, HINV.out.names, hs, HINV.out.small s (getS_some hs).1, rfl⟩
                  clear hh hs HB
                  go_wp2_with fail
                  go_meet
                  exact ⟨kk, blk, L, s, HR, HX, hb⟩
                | true =>
                  have hh : hasS tm L = false := by
                    have := HB.out
                    cases hq : hasS tm L with
                    | false => rfl
                    | true => rw [hq] at this; cases this
                  obtain ⟨⟨D, hown, hD⟩, hbx, hij⟩ := HM.out
                  have hal : Below WS.heap.size WS (WS.alloc (.cells (zeroS tm).arr 92)) := (Below.refl _ _).alloc (Nat.le_refl _) _
                  have hxn := at_new WS (zeroS tm).arr 92
                  have hM1 := HM.out.below hal
                  have hown1 := hown.kept (row := none) ⟨hal.os, hal.tape, hal.output, hal.size, fun k hk _ => hal.block k hk⟩ (by simp)
                  have hfr : ∀ s ∈ L, blk s.t ≠ WS.heap.size := fun s hs e => by have := (hbx s hs).1.lt; omega
                  have hb1 := hb.trans (hal.mono hb.size)
                  have HX1 := Lib.hid (At.below HX.out hal HX.out.lt)
                  have hkl : keyOf prog 9 (.string (bA tm)) = some (.string tm) := by
                    rw [keyOf_string_mk (by kernel_rfl) (by rw [bA_size]; exact Nat.le_trans htl (by decide))]; rfl
                  have Hkl := Lib.hid hkl
                  have Hown := Lib.hid hown1
                  have hwmb : w.heap.size ≤ WS.heap.size := hb.size
                  have HN := Lib.hid (fun w1 ho hg => MapS.name (w1 := w1) hD hM1 hxn hwmb hfr hh ho hg)
                  have HG1 := Lib.hid (And.intro (getS_more hh) (And.intro (names_more HINV.out.names hh) (bump_has (o := ow) (g := oth) hh)))
                  obtain ⟨W5, hW5⟩ : ∃ W5, WS.alloc (.cells (zeroS tm).arr 92) = W5 := ⟨_, rfl⟩
                  rw [hW5] at hb1 HX1 Hown HN
                  have HKK := Lib.hid hkk
                  unfold Std.arr zeroS at hW5
                  clear hown hD hbx hij hal hxn hM1 hown1 hfr hkl hh HB
                  go_wp2_with (first
                    | (at_mapUpdate; (try rw [hW5]); refine wpList_mapUpdate_own _ rfl _ _ _ 177 rfl 9 178 (string_keyed (by kernel_rfl)) (by kernel_rfl) _ mb kk _ rfl Hown.out (by unfold maxLen; omega) _ _ _ rfl rfl Hkl.out (.held (ptrV (some WS.heap.size))) [] (held_ptr (some WS.heap.size)) ?_; intro w1 hown1 hgrow1; go_frame)
                    | fail)
                  have hM9 := HN.out w1 hown1 hgrow1
                  have HR : Hid (StepS w1 mb (2 * i + 1 + 1) w.heap.size tm ow oth (2 * i + 1) L (kk + 1) (fun q => if q = tm then WS.heap.size else blk q) (L ++ [zeroS tm]) (zeroS tm)) := Lib.hid ⟨Nat.succ_le_succ HKK.out, hM9, HG1.out.2.1, HG1.out.1, SmS.zero _ _, HG1.out.2.2⟩
                  have HX9 : Hid (At w1 B7 ((g i).arr (.slice a1 (g i).k kc)) 110) := Lib.hid ((hgrow1.block _ HX1.out.lt (fun e => by
                    obtain ⟨es, clock, h1, -⟩ := Hown.out
                    have h2 : At W5 B7 _ 110 := HX1.out
                    unfold At at h2
                    have e2 : B7 = mb := by cases e; rfl
                    rw [e2, h1] at h2
                    cases h2)).trans HX1.out)
                  have hb9 : Below w.heap.size w w1 := hb1.grown hgrow1 hb1.size (fun q hq => by cases hq; exact hmb0)
                  clear hM9 hown1 hgrow1 HN HG1 HX1 hb1
                  go_wp2_with fail
                  go_meet
                  exact ⟨_, _, _, _, HR, HX9, hb9⟩
              case rest =>
              clear hb HM HX
              obtain ⟨k1, blk1, L1, s, HR, HX, hb⟩ := hcut
              generalize wc = WS2 at HR HX hb ⊢
              have hlk : ∀ W, Below WS2.heap.size WS2 W → (Instr.lookup 177 (.map (some mb)) (.string (bA tm)) false).run prog W = .ok (.pointer (some ⟨blk1 tm, 0, none⟩)) W := fun W hW => by
                have := mapS_look (HR.out.2.1.below hW) (p := tm) (Nat.le_trans htl (by decide))
                have hh : hasS tm L1 = true := by unfold hasS; rw [HR.out.2.2.2.1]; rfl
                rw [if_pos hh] at this
                exact this
              have HLK := Lib.hid hlk
              have hdr : Below WS2.heap.size WS2 WS2.drew := (Below.refl _ _).drew
              have cA : ∀ W, Below WS2.heap.size WS2 W → Calls prog 114 #[.pointer (some ⟨blk1 tm, 0, none⟩), .int .i64 ow, .int .i64 oth] W _ := fun W hW => by
                obtain ⟨hs1, hs2⟩ := getS_some HR.out.2.2.2.1
                have h1 := ((HR.out.2.1.below hW).box s hs1).1
                rw [hs2] at h1
                exact add114_w h1 HR.out.2.2.2.2.1 (by omega) HSC.out.1 HSC.out.2
              have HFIN : Hid (∀ W w', Below WS2.heap.size WS2 W → At w' (blk1 tm) (addS s ow oth).arr 92 → W.grownBy w' (some (blk1 tm)) → MapE w' mb (2 * i + 1 + 1) w.heap.size (stdsK g (i + 1)) ∧ At w' B7 ((g i).arr (.slice a1 (g i).k kc)) 110 ∧ Below w.heap.size w w') := Lib.hid fun W w' hW ha hg => by
                have hMW := HR.out.2.1.below hW
                obtain ⟨hs1, hs2⟩ := getS_some HR.out.2.2.2.1
                have hbo := hMW.box s hs1
                rw [hs2] at hbo
                have h7 := At.below HX.out hW HX.out.lt
                refine ⟨⟨k1, blk1, HR.out.1, ?_⟩, (hg.block _ h7.lt (fun e => ?_)).trans h7, (hb.trans (hW.mono hb.size)).grown hg (hb.trans (hW.mono hb.size)).size (fun q hq => by cases hq; exact hbo.2)⟩
                · rw [HNX.out, ← HR.out.2.2.2.2.2]
                  exact hMW.add HR.out.2.2.1 HR.out.2.2.2.1 ow oth ha hg
                · have e2 : B7 = blk1 tm := by cases e; rfl
                  have h8 := hbo.1
                  unfold At at h7 h8
                  rw [e2, h8] at h7
                  simp at h7
              have wr1 : IntKind.i64.wrap 1 = 1 := by decide
              have wr0 : IntKind.i64.wrap 0 = 0 := by decide
              clear hlk
              go_wp2_with fail
              refine wp_region_quiet_to (C := (fun W => Below WS2.heap.size WS2 W)) 12 1 #[true, true, true, true, true, true, true, true, true, true, true, true, false] (by kernel_rfl) (by kernel_rfl) ?_ ?_
              · (try dsimp only)
                exact hdr
              simp only [List.take_succ_cons, List.take_zero]
              with_reducible refine quiet_take (v := ?_) ?_ ?_ ?_
              rotate_left
              · rfl
              · (intro w hSw; (try dsimp only at hSw); go_simp); all_goals (with_reducible rfl)
              try simp only [Act.put, List.setIfInBounds_toArray, List.set_cons_zero, List.set_cons_succ]
              with_reducible refine quiet_take (v := ?_) ?_ ?_ ?_
              rotate_left
              · rfl
              · (intro w hSw; (try dsimp only at hSw); go_simp); all_goals (with_reducible rfl)
              try simp only [Act.put, List.setIfInBounds_toArray, List.set_cons_zero, List.set_cons_succ]
              with_reducible refine quiet_take (v := ?_) ?_ ?_ ?_
              rotate_left
              · rfl
              · (intro w hSw; have hl := HLK.out _ hSw; (try dsimp only at hSw); go_simp); all_goals (with_reducible rfl)
              try simp only [Act.put, List.setIfInBounds_toArray, List.set_cons_zero, List.set_cons_succ]
              with_reducible refine quiet_take (v := ?_) ?_ ?_ ?_
              rotate_left
              · rfl
              · (intro w hSw; (try dsimp only at hSw); go_simp); all_goals (with_reducible rfl)
              try simp only [Act.put, List.setIfInBounds_toArray, List.set_cons_zero, List.set_cons_succ]
              with_reducible refine quiet_take (v := ?_) ?_ ?_ ?_
              rotate_left
              · rfl
              · (intro w hSw; (try dsimp only at hSw); go_simp); all_goals (with_reducible rfl)
              try simp only [Act.put, List.setIfInBounds_toArray, List.set_cons_zero, List.set_cons_succ]
              with_reducible refine quiet_take (v := ?_) ?_ ?_ ?_
              rotate_left
              · rfl
              · (intro w hSw; (try dsimp only at hSw); go_simp); all_goals (with_reducible rfl)
              try simp only [Act.put, List.setIfInBounds_toArray, List.set_cons_zero, List.set_cons_succ]
              with_reducible refine quiet_take (v := ?_) ?_ ?_ ?_
              rotate_left
              · rfl
              · (intro w hSw; obtain ⟨y5, y6⟩ := HX7.out _ (At.below HX.out hSw HX.out.lt); (try dsimp only at hSw); go_simp); all_goals (with_reducible rfl)
              try simp only [Act.put, List.setIfInBounds_toArray, List.set_cons_zero, List.set_cons_succ]
              with_reducible refine quiet_take (v := ?_) ?_ ?_ ?_
              rotate_left
              · rfl
              · (intro w hSw; (try dsimp only at hSw); go_simp); all_goals (with_reducible rfl)
              try simp only [Act.put, List.setIfInBounds_toArray, List.set_cons_zero, List.set_cons_succ]
              with_reducible refine quiet_take (v := ?_) ?_ ?_ ?_
              rotate_left
              · rfl
              · (intro w hSw; (try dsimp only at hSw); go_simp); all_goals (with_reducible rfl)
              try simp only [Act.put, List.setIfInBounds_toArray, List.set_cons_zero, List.set_cons_succ]
              with_reducible refine quiet_take (v := ?_) ?_ ?_ ?_
              rotate_left
              · rfl
              · (intro w hSw; (try dsimp only at hSw); go_simp); all_goals (with_reducible rfl)
              try simp only [Act.put, List.setIfInBounds_toArray, List.set_cons_zero, List.set_cons_succ]
              with_reducible refine quiet_take (v := ?_) ?_ ?_ ?_
              rotate_left
              · rfl
              · (intro w hSw; (try dsimp only at hSw); go_simp); all_goals (with_reducible rfl)
              try simp only [Act.put, List.setIfInBounds_toArray, List.set_cons_zero, List.set_cons_succ]
              with_reducible refine quiet_take (v := ?_) ?_ ?_ ?_
              rotate_left
              · rfl
              · (intro w hSw; obtain ⟨y5, y6⟩ := HX7.out _ (At.below HX.out hSw HX.out.lt); (try dsimp only at hSw); go_simp); all_goals (with_reducible rfl)
              try simp only [Act.put, List.setIfInBounds_toArray, List.set_cons_zero, List.set_cons_succ]
              refine wpQuiet_nil ?_
              intro W hSw
              refine wpAny_of_held (S := fun _ => True) _ _ _ _ ?_
              refine wpAnyH_ready (rs := [12]) (by kernel_rfl) (by simp) ?_
              refine AllReadyH.cons (o := _) rfl (fun K hK => ?_) ?_
              · -- 114
                go_simp
                refine (cA W hSw).mono ?_; rintro e w' ⟨rfl, ha, hg, -⟩
                refine hK.out _ _ trivial (fun _ => ?_)
                clear hK K
                try simp only [List.setIfInBounds_toArray, List.set_cons_zero, List.set_cons_succ]
                refine wpAnyH_done (by kernel_rfl) ?_ _
                obtain ⟨hmap9, hx9, hb9⟩ := HFIN.out _ _ hSw ha hg
                clear cA HFIN HLK HR HX hSw ha hg hdr hb
                go_wp2_with fail
                go_roundw
                case rel => exact ⟨0, Nat.zero_le _, Or.inr (Or.inr ⟨rfl, hmap9⟩), hx9, hb9⟩
                case measure => simp [numOf']
              exact AllReadyH.nil
            · have HMF : Hid (MapE wr mb (2 * (i + 1)) w.heap.size (stdsK g (i + 1))) := Lib.hid hmap
              clear hinv0 hinv1 hsc hmap hx7
              go_wp2_with fail
              go_roundw
              case rel => exact ⟨i + 1, by omega, by go_num, HMF, hb⟩
              case measure => simp [numOf'] <;> omega
        · obtain rfl : i = n := by omega
          go_wp2_with fail
          go_meet
          exact ⟨HMI, hb⟩
    case rest =>
      obtain ⟨HMF, hbR⟩ := hcut
      generalize wc = WR at HMF hbR ⊢
      clear hB3 y0
      obtain ⟨kk, blk, hkk, hMF⟩ := HMF.out
      obtain ⟨⟨D, hown, hD⟩, hbx, hij⟩ := hMF
      have hInv := InvS.all (g := g) (n := n) fun j hj => (HG.out.2 j hj).1
      obtain ⟨F, hF⟩ : ∃ F, stdsK g n = F := ⟨_, rfl⟩
      rw [hF] at hInv hD hbx hij
      have HFF := Lib.hid hF
      have HINV := Lib.hid hInv
      have HBX := Lib.hid hbx
      have HD := Lib.hid hD
      have HG0 := Lib.hid (GoodS.start hD)
      have hblt := hown.lt
      obtain ⟨iT, TT⟩ := el92
      have HT := Lib.hid TT
      clear TT hF hInv hD hbx hij HMF hkk
      go_wp2_with (first
        | (at_range; refine wpList_range_own _ rfl _ 177 rfl 9 178 (string_keyed (by kernel_rfl)) (by kernel_rfl) HeldP mb kk D rfl hown ?_; intro w0 hrg0 hg0 hs0; go_frame)
        | fail)
      have hrow0 : OwnRow w0 (WR.heap.size + 1) 92 6 (.slice none 0 0) (([] : List Std).map Std.cells) := OwnRow.start _ _ _ _
      have hbl0 : Below WR.heap.size WR w0 := ⟨hg0.os, hg0.tape, hg0.output, hg0.size, fun i hi => hg0.block i hi (by simp)⟩
      have hsz0 : WR.heap.size + 1 ≤ w0.heap.size := Nat.le_of_eq hs0.symm
      clear hown hg0 hs0
      go_loopw [10] (fun t wr => ∃ (left : Lit → Bool) (cnt : Nat) (Lo : List Std), wr.ranges prog 9 HeldP mb WR.heap.size kk D left cnt ∧ OwnRow wr (WR.heap.size + 1) 92 6 t (Lo.map Std.cells) ∧ Hid (GoodS F left Lo) ∧ Below WR.heap.size WR wr ∧ WR.heap.size + 1 ≤ wr.heap.size) (fun _ wr => wr.rangeLeft mb WR.heap.size)
      case atStart => exact ⟨_, _, [], hrg0, hrow0, HG0, hbl0, hsz0⟩
      case round =>
        clear hrg0 hrow0 HG0 hbl0 hsz0
        obtain ⟨left, cnt, Lo, hrg, hl, hG, hbl, hsz⟩ := hrel
        go_wp2_with (first
          | (at_next; refine wpList_next_ranges _ rfl _ rfl 9 (string_keyed (by kernel_rfl)) HeldP (fun s : List UInt8 => .string (bA s)) (fun o : Option Nat => ptrV o) invK9 invVP mb WR.heap.size kk D left cnt rfl hrg ?_ ?_)
          | fail)
        · intro hc0 hl0
          have hpm := hG.out.fin HINV.out.names hl0
          have HPM := Lib.hid hpm
          have cS := sortS_w (m := 2 * n) (by omega) hl (Nat.le_trans hG.out.len (Nat.le_trans HINV.out.len (by omega))) (fun s hs => HINV.out.small s (hpm.subset hs)) hG.out.nodup
          clear hl hG hrg hl0 hc0 hpm
          go_wp2_with fail
          go_at_call 115
          refine cS.mono ?_
          rintro e w9 ⟨rfl, S, hSp, hSs, hrow9, hkeep⟩
          have hb9 : Below w.heap.size w w9 := hkeep w (hbR.trans (hbl.mono hbR.size)) (Nat.le_succ_of_le hbR.size)
          have hrowF := OwnRow.mono hrow9 (Nat.le_succ_of_le hbR.size)
          have HA : Hid (StdAns w9 w.heap.size u10 g n) := Lib.hid ⟨fun _ => ⟨S, by rw [HFF.out]; exact hSp.trans HPM.out, hSs, hrowF⟩, fun h => absurd HE0.out h⟩
          clear cS hSp hSs hkeep hrow9 hrowF
          go_wp2_with fail
          go_ret2
          exact ⟨⟨_, rfl, HA.out⟩, hb9⟩
        · intro x c kl y1 y2 w1 cnt1 hkx hlx hRc hat hrg1 hlt hg1 hs1 hen
          obtain rfl := key9 hkx
          rw [held_ptr] at hRc
          simp only [Option.some.injEq, Prod.mk.injEq] at hRc
          obtain ⟨rfl, rfl⟩ := hRc
          obtain ⟨t, ht, rfl, rfl⟩ := spec_key HD.out hat
          have hbl1 : Below WR.heap.size WR w1 := hbl.grown hg1 hbl.size (fun q hq => by cases hq; exact Nat.le_refl _)
          have hl1 : OwnRow w1 (WR.heap.size + 1) 92 6 u10 (Lo.map Std.cells) := ⟨hl.1.kept hg1 (by
            cases hb : Value.ownBlock u10 with
            | none => exact .inl rfl
            | some q => refine .inr fun e => ?_; cases e; have := (OwnRow.lt hl _ hb).1; omega), hl.2⟩
          have hz5 : At w1 (blk t.t) t.arr 92 := At.below (HBX.out t ht).1 hbl1 (HBX.out t ht).1.lt
          have hsz1 : WR.heap.size + 1 ≤ w1.heap.size := Nat.le_trans hsz (Nat.le_of_eq hs1.symm)
          have hrn := hrg1.ne
          have hme : wr.rangeLeft mb WR.heap.size = cnt := hrg.left_eq
          have hG2 := Lib.hid (hG.out.more HINV.out.names ht hlx)
          have hLo := Lib.hid (Nat.le_trans hG.out.len HINV.out.len)
          have HRG := Lib.hid hrg1
          unfold Std.arr at hz5
          obtain ⟨⟨z0, z1, z2, z3, z4, z5⟩, -⟩ := box6 hz5
          unfold ptrV at hen
          clear hG hkx hlx hat hrg hg1 hs1 hl hbl hsz ht hrg1 hz5
          go_wp2_with (first
            | (with_reducible refine haltR ?_)
            | fail)
          unfold Halt
          clear z0 z1 z2 z3 z4 z5 hen
          have hal := fun o => (Below.refl w1.heap.size w1).alloc (Nat.le_refl _) o
          refine wpList_sliceR (fun w => run_slice92 w t) _ rfl _ rfl rfl ?_
          refine wpList_appendR HT.out _ rfl _ _ rfl (WR.heap.size + 1) _ (Lo.map Std.cells) _ rfl 1 rfl (OwnRow.below hl1 (hal _)) (by rw [List.length_map]; have := hLo.out; omega) t.cells (Std.len _) (Std.one _) (at_new _ _ _) (Nat.le_trans hsz1 (hal _).size) ?_
          intro a9 k9 c9 w9 hA
          have hl9 : OwnRow w9 (WR.heap.size + 1) 92 6 (.slice a9 k9 c9) ((Lo ++ [t]).map Std.cells) := by
            have := hA.row
            rw [List.map_append]
            exact this
          have hbl9 := hA.below WR (hbl1.trans ((hal _).mono hbl1.size)) (Nat.le_succ _)
          have hsz9 := Nat.le_trans (Nat.le_trans hsz1 (hal (.cells t.arr 92)).size) hA.size
          obtain ⟨kx, xs, hu, hgr⟩ := hA.grown
          have hrg9 := (HRG.out.alloc (.cells t.arr 92)).kept hgr (fun e => by
            have := owns_not_mapP hu HRG.out.owns e.symm
            exact this) (fun e => by have := (OwnRow.lt hl1 _ e.symm).1; omega)
          have HRG9 := Lib.hid hrg9
          clear hA hl1 hbl1 hal HRG hu hgr hrg9
          go_wp2_with fail
          go_roundw
          case rel => exact ⟨_, _, _, HRG9.out, hl9, hG2, hbl9, hsz9⟩
          case measure => rw [HRG9.out.left_eq, hme]; omega
  · have hE1 : (E != 0) = true := by simpa using hE0
    have HA : Hid (StdAns W2 w.heap.size (.slice none 0 0) g n) := Lib.hid ⟨fun h => absurd (HE.out.symm.trans h) hE0, fun _ => rfl⟩
    clear hOK hx2 HE
    go_wp2_with fail
    go_ret2
    exact ⟨⟨_, rfl, HA.out⟩, hB2⟩
end Go.Proofs.Tryz
