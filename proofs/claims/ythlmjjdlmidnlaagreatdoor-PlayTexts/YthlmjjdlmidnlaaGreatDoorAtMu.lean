/- Parse of the reference: by the kit's walk. On the seat of the open Play statements: lists of plays that are handed, opened. Lists of plays: checked, on both sides; short: by the kit's walk. Lists of plays that are built one by one. A play appended onto a list of plays that is built: one law for all places. Lists of plays copied: by the kit's walk. ParseAll of the reference: by the kit's walk; what it answers. Plain: what ParseAll answers, line by line; lists of plays that abide. -/
import Derived.Test.YthlmjjdlmidnlaaGreatDoorAtHu
import Derived.Test.YthlmjjdlmidnlaaGreatDoorAsAku
import Derived.Test.YthlmjjdlmidnlaaGreatDoorArOu
import Derived.Test.YthlmjjdlmidnlaaGreatDoorAsQu
import Derived.Test.YthlmjjdlmidnlaaGreatDoorArVau
namespace Go.Proofs.Tryz
open Go Go.Am Go.RowKit Go.Dr
set_option maxRecDepth 100000

theorem owns_old {w w' : World} {base b2 g k c n : Nat} {e : TypeId} {xs : List Value} {L : List MvD} {cc : M5} {v u : Value} (h : w.ownsRow base e 1 (.slice (some ⟨g, 0, none⟩) k c) n xs) (hg : g < b2) (hA : AppM w w' b2 L cc v u) : w'.ownsRow base e 1 (.slice (some ⟨g, 0, none⟩) k c) n xs := by
  rcases h.2 with ⟨q, h0⟩ | ⟨g', cap, cur, q, h1, h2, h3⟩
  · cases q
  · cases q
    exact ⟨h.1, .inr ⟨_, _, cur, rfl, h1, (hA.old _ hg (Array.getElem?_eq_some_iff.1 h2).1).trans h2, h3⟩⟩
/-- .. with moves in a row of the call's own. -/
def ParOwn (w' : World) (base : Nat) (e : Ending) (l : List UInt8) : Prop :=
  ∃ mv, e = .returned (.tuple #[.agg #[.string (parL l).p.s1, .string (parL l).p.s2, .bool (parL l).p.lx, mv], .int .i64 ((parL l).k : Int), .int .i64 (parL l).e]) ∧ OwnMoves w' base mv (dOf (parL l).p.L) (parL l).p.L.length
theorem chkR_p {w : World} {y0 y1 : Int → Int} {yo yn eo en : Int} {d : Nat → MvD} {n : Nat} {pvv ev mv : Value} (b : Bool) (h : Laid w) (hp : IsStr pvv y0 yo yn) (he : IsStr ev y1 eo en) (hm : IsMoves w mv d n) :
    Calls prog 17 #[.agg #[pvv, ev, .bool b, mv]] w fun e w' => e = .returned (.int .i64 (plV y0 yo yn y1 eo en d n)) ∧ Below w.heap.size w w' := by
  cases b
  · exact chkR_w (lx := 0) h hp he hm
  · exact chkR_w (lx := 1) h hp he hm
theorem results_cell3p {fn : Func} {p u t : Tmp} {ty : TypeId} (h : fn.results = #[.cell p ty, .tmp u, .tmp t]) (tmps : Array Value) (P : Program) (w : World) :
    (results fn tmps).run P w =
      ((asAddr (tmps.getD p undef)).run P w).andThen fun a w₁ => ((loadVar ty a).run P w₁).andThen fun v w₂ => .ok (.tuple #[v, tmps.getD u undef, tmps.getD t undef]) w₂ := by
  simp only [results, h]
  simp [Sem.run_bind, Result.andThen]
/-- A play and two numbers, as Parse hands them back. -/
theorem res_play3 {tmps : Array Value} {W : World} {b : Nat} {c0 c1 c2 c3 : Value} (f : Func) (hf : f.results = #[.cell 2 24, .tmp 3, .tmp 4]) (hp : tmps.getD 2 undef = .pointer (some ⟨b, 0, none⟩)) (hz : At W b #[c0, c1, c2, c3] 24) {k e : Value} (hk : tmps.getD 3 undef = k) (he : tmps.getD 4 undef = e) :
    (results f tmps).run prog W = .ok (.tuple #[.agg #[c0, c1, c2, c3], k, e]) W := by
  obtain ⟨⟨y0, y1, y2, y3⟩, -⟩ := box4 hz
  rw [results_cell3p hf, hp, hk, he]
  simp [go_sem, y0, y1, y2, y3]
theorem arP_def (l : List UInt8) (h : l ≠ [45]) : arP l = decide (l ≠ [] ∧ l.all pitB = true) := by
  unfold arP
  have e : (l == [45]) = false := by rw [beq_eq_false_iff_ne]; exact h
  rw [e]
  by_cases h0 : l = []
  · subst h0; rfl
  · have e0 : l.isEmpty = false := by cases l with | nil => exact absurd rfl h0 | cons a r => rfl
    rw [e0]
    cases hb : l.all pitB with
    | true => rw [decide_eq_true ⟨h0, rfl⟩]; rfl
    | false => rw [decide_eq_false (fun q => by cases q.2)]; rfl
theorem isEv_def (l : List UInt8) (h : l ≠ []) : isEv l = decide (l.length = 1 ∧ l.all evB = true) := by
  unfold isEv
  have e0 : l.isEmpty = false := by cases l with | nil => exact absurd rfl h | cons a r => rfl
  rw [e0]
  cases hb : l.all evB with
  | true =>
    by_cases h1 : l.length = 1
    · rw [decide_eq_true ⟨h1, rfl⟩, h1]; rfl
    · rw [decide_eq_false (fun q => h1 q.1)]
      have : (l.length == 1) = false := by rw [beq_eq_false_iff_ne]; exact h1
      rw [this]; rfl
  | false => rw [decide_eq_false (fun q => by cases q.2)]; simp

/-- What the reference's Parse has read. -/
def PrI (w w2 : World) (l : List UInt8) (B6 g base K cK : Nat) (r _z : List (List UInt8)) (P : PSt) (v : Value) (W : World) : Prop :=
  accW 0 p0St r = some P ∧ At W B6 #[.string (bA P.a), .string (bA P.e), .bool P.lx, v] 24 ∧ LsR W w2.heap.size P.L v ∧ P.L.length ≤ r.length ∧ At W w.heap.size #[.string ⟨#[]⟩, .string ⟨#[]⟩, .bool false, .slice none 0 0] 24 ∧
    W.ownsRow base 9 1 (.slice (some ⟨g, 0, none⟩) K cK) K ((spl 32 l).map strV) ∧ Below w.heap.size w W ∧ w2.heap.size ≤ W.heap.size

set_option maxHeartbeats 12800000 in
theorem parseR_own (l : List UInt8) (hl : l.length ≤ 4096) (w : World) (hL : Laid w) :
    Calls prog 23 #[.string (bA l)] w fun e w' => ParOwn w' w.heap.size e l ∧ Below w.heap.size w w' := by
  have hs : (bA l).size = l.length := bA_size l
  have hk : ¬ (4096 < (l.length : Int)) := by omega
  have hB0 : Below w.heap.size w (w.alloc (.cells #[.string ⟨#[]⟩, .string ⟨#[]⟩, .bool false, .slice none 0 0] 24)) := (Below.refl _ _).alloc (Nat.le_refl _) _
  have hz0 := at_new w #[.string ⟨#[]⟩, .string ⟨#[]⟩, .bool false, .slice none 0 0] 24
  have cS : Calls prog 57 #[.string (bA l), .int .u8 32] (w.alloc (.cells #[.string ⟨#[]⟩, .string ⟨#[]⟩, .bool false, .slice none 0 0] 24)) fun e w' => ∃ v, e = .returned v ∧ w'.ownsRow (w.alloc (.cells #[.string ⟨#[]⟩, .string ⟨#[]⟩, .bool false, .slice none 0 0] 24)).heap.size 9 1 v (spl 32 l).length ((spl 32 l).map strV) ∧ Below (w.alloc (.cells #[.string ⟨#[]⟩, .string ⟨#[]⟩, .bool false, .slice none 0 0] 24)).heap.size (w.alloc (.cells #[.string ⟨#[]⟩, .string ⟨#[]⟩, .bool false, .slice none 0 0] 24)) w' := splitR_w l 32 (by omega) _
  go_enter func23, ntmps23
  go_wp2_with fail
  go_at_call 57
  refine cS.mono ?_
  rintro e w1 ⟨sv, rfl, hrow, hk1⟩
  have hz1 := (hz0.below hk1 hz0.lt).alloc (.cells #[.string ⟨#[]⟩, .string ⟨#[]⟩, .bool false, .slice none 0 0] 24)
  have hB1 := hB0.trans (hk1.mono hB0.size)
  have hB2 := hB1.alloc hB1.size (.cells #[.string ⟨#[]⟩, .string ⟨#[]⟩, .bool false, .slice none 0 0] 24)
  have hp2 := at_new w1 #[.string ⟨#[]⟩, .string ⟨#[]⟩, .bool false, .slice none 0 0] 24
  have hrow2 := hrow.alloc (.cells #[.string ⟨#[]⟩, .string ⟨#[]⟩, .bool false, .slice none 0 0] 24)
  have hs1 := hk1.size
  have hs0 : (w.alloc (.cells #[.string ⟨#[]⟩, .string ⟨#[]⟩, .bool false, .slice none 0 0] 24)).heap.size = w.heap.size + 1 := by simp
  have hs2 : (w1.alloc (.cells #[.string ⟨#[]⟩, .string ⟨#[]⟩, .bool false, .slice none 0 0] 24)).heap.size = w1.heap.size + 1 := by simp
  have hlt1 := hrow.lt
  obtain ⟨base, hbase⟩ : ∃ B, (w.alloc (.cells #[.string ⟨#[]⟩, .string ⟨#[]⟩, .bool false, .slice none 0 0] 24)).heap.size = B := ⟨_, rfl⟩
  rw [hbase] at hrow2 hlt1 hs0 hs1
  obtain ⟨K, hK⟩ : ∃ K, (spl 32 l).length = K := ⟨_, rfl⟩
  have hK1 : 0 < K := by rw [← hK]; exact List.length_pos_iff.2 (spl_ne 32 l)
  have hK2 : K ≤ 4097 := by
    have := spl_length 32 l
    have := List.count_le_length (a := (32 : UInt8)) (l := l)
    omega
  rw [hK] at hrow2
  obtain ⟨g, cK, rfl⟩ : ∃ g c, sv = .slice (some ⟨g, 0, none⟩) K c := by
    rcases hrow2.2 with ⟨rfl, h0⟩ | ⟨g, cap, cur, e, _⟩
    · omega
    · exact ⟨g, cap, e⟩
  have hg : base ≤ g ∧ g < w1.heap.size := hlt1 g rfl
  obtain ⟨B6, hB6⟩ : ∃ B, w1.heap.size = B := ⟨_, rfl⟩
  rw [hB6] at hp2 hs2 hg
  clear hrow hlt1 hz0 hB0 hB1 cS hk1
  go_wp2_with fail
  obtain ⟨w2, hw2⟩ : ∃ W : World, w1.alloc (.cells #[.string ⟨#[]⟩, .string ⟨#[]⟩, .bool false, .slice none 0 0] 24) = W := ⟨_, rfl⟩
  (try rw [hB6])
  rw [hw2]
  rw [hw2] at hz1 hB2 hp2 hrow2 hs2
  have HNE : Hid (B6 ≠ w.heap.size ∧ g ≠ w.heap.size ∧ g ≠ B6 ∧ w.heap.size < B6 ∧ B6 < w2.heap.size ∧ g < w2.heap.size) := Lib.hid (by omega)
  have h0 : PrI w w2 l B6 g base K cK [] (spl 32 l) p0St (.slice none 0 0) w2 := ⟨rfl, hp2, LsR.start _ _, Nat.le_refl _, hz1, hrow2, hB2, Nat.le_refl _⟩
  clear hbase hs0 hs1 hs2 hg hB6 hw2 hp2 hz1 hB2 hrow2
  go_loopw [7, 8] (fun s7 s8 wr => ∃ (r z : List (List UInt8)) (P : PSt) (v : Value), spl 32 l = r ++ z ∧ s7 = .int .i64 ((atW r : Nat) : Int) ∧ s8 = .int .i64 ((r.length : Nat) : Int) ∧ PrI w w2 l B6 g base K cK r z P v wr) (fun _ s8 _ => K - (numOf' s8).toNat)
  case atStart => exact ⟨[], _, _, _, rfl, rfl, rfl, h0⟩
  case round =>
    clear h0
    obtain ⟨r, z, P, v, hspl, rfl, rfl, hacc, hpp, hlr, hPl, hzz, hrw, hBW, hsz⟩ := hrel
    obtain ⟨⟨p0, p1, p2, p3⟩, gp0, gp1, gp2, gp3⟩ := box4 hpp
    obtain ⟨⟨z0, z1, z2, z3⟩, gz0, gz1, gz2, gz3⟩ := box4 hzz
    have hrK : r.length + z.length = K := by rw [← hK, hspl, List.length_append]
    cases z with
    | nil =>
      have hz0 : r.length = K := by rw [← hrK]; simp
      have HA : Hid (accW 0 p0St (spl 32 l) = some P) := Lib.hid (by rw [hspl, List.append_nil]; exact hacc)
      rw [hz0]
      have HKl := Lib.hid hK
      clear hspl hacc hrK hK
      by_cases h2 : K < 2
      · have HR : Hid (parL l = ⟨zeroP, l.length, 25⟩) := Lib.hid (parL_few (by omega) HA.out (by rw [HKl.out]; exact h2))
        have h2' : (K : Int) < 2 := by omega
        clear hk HA
        go_wp2_with fail
        have hz4 := hzz.set4 (.string ⟨#[]⟩) (.string ⟨#[]⟩) (.bool false) (.slice none 0 0)
        refine bodyPost_ret (res_play3 f23 rfl rfl hz4 rfl rfl) rfl ?_
        unfold ParOwn
        rw [HR.out]
        exact ⟨⟨_, rfl, zero_own _ _⟩, below_set4 hBW (Nat.le_refl _) _ _ _ _⟩
      · have h2' : ¬ (K : Int) < 2 := by omega
        have hmv := hlr.row
        obtain ⟨av, kv, cv, rfl⟩ := hlr.slice
        obtain rfl := hlr.count
        have cC := chkR_p P.lx (hL.below hBW) (isStr_bA P.a) (isStr_bA P.e) hmv
        obtain ⟨k, hkk⟩ : ∃ k, plP P = k := ⟨_, rfl⟩
        have cC : Calls prog 17 #[.agg #[.string (bA P.a), .string (bA P.e), .bool P.lx, .slice av P.L.length cv]] wr fun e w' => e = .returned (.int .i64 k) ∧ Below wr.heap.size wr w' := by rw [← hkk]; exact cC
        clear hrw
        go_wp2_with fail
        go_at_call 17
        refine cC.mono ?_
        rintro e w5 ⟨rfl, hk5⟩
        clear cC
        have hpp := hpp.below hk5 hpp.lt
        have hzz := hzz.below hk5 hzz.lt
        have hBW := hBW.trans (hk5.mono hBW.size)
        have hlr := hlr.below hk5
        clear hmv hk5 p0 p1 p2 p3 gp0 gp1 gp2 gp3 z0 z1 z2 z3 gz0 gz1 gz2 gz3
        obtain ⟨⟨p0, p1, p2, p3⟩, gp0, gp1, gp2, gp3⟩ := box4 hpp
        obtain ⟨⟨z0, z1, z2, z3⟩, gz0, gz1, gz2, gz3⟩ := box4 hzz
        by_cases hk0 : k = 0
        · subst hk0
          have HR : Hid (parL l = ⟨pldOf P, 0, 0⟩) := Lib.hid (parL_ok (by omega) HA.out (by rw [HKl.out]; exact h2) hkk)
          clear hkk HA hk
          go_wp2_with fail
          have hz4 := hzz.set4 (.string (bA P.a)) (.string (bA P.e)) (.bool P.lx) (.slice av P.L.length cv)
          refine bodyPost_ret (res_play3 f23 rfl rfl hz4 rfl rfl) rfl ?_
          unfold ParOwn
          rw [HR.out]
          have hw2 : w.heap.size < w2.heap.size := by have := HNE.out; omega
          exact ⟨⟨_, rfl, ((((hlr.set hw2 0 _).set hw2 1 _).set hw2 2 _).set hw2 3 _).own.mono (Nat.le_of_lt hw2)⟩, below_set4 hBW (Nat.le_refl _) _ _ _ _⟩
        · have HR : Hid (parL l = ⟨zeroP, l.length, k⟩) := Lib.hid (by rw [← hkk]; exact parL_chk (by omega) HA.out (by rw [HKl.out]; exact h2) (by rw [hkk]; exact hk0))
          have hk0' : (k != 0) = true := by simpa using hk0
          clear hkk HA hk
          go_wp2_with fail
          have hz4 := hzz.set4 (.string ⟨#[]⟩) (.string ⟨#[]⟩) (.bool false) (.slice none 0 0)
          refine bodyPost_ret (res_play3 f23 rfl rfl hz4 rfl rfl) rfl ?_
          unfold ParOwn
          rw [HR.out]
          exact ⟨⟨_, rfl, zero_own _ _⟩, below_set4 hBW (Nat.le_refl _) _ _ _ _⟩
    | cons x z =>
      have hat : atW r + x.length ≤ 4097 := by
        have := atW_spl l
        rw [hspl, atW_append, atW] at this
        omega
      have hwl : x.length ≤ 4096 := by
        have := atW_spl l
        rw [hspl, atW_append, atW] at this
        omega
      have hsx : (bA x).size = x.length := bA_size x
      have hcell : wr.cell? ⟨g, r.length, none⟩ = some (.string (bA x)) := by
        have := hrw.cells (g := g) rfl r.length (strV x) (by rw [hspl]; simp)
        rwa [add_adr, Nat.zero_add] at this
      have HI : Hid (∀ (P' : PSt) (v' : Value) (W' : World), stepW r.length x P = some P' → At W' B6 #[.string (bA P'.a), .string (bA P'.e), .bool P'.lx, v'] 24 → LsR W' w2.heap.size P'.L v' → P'.L.length ≤ r.length + 1 → At W' w.heap.size #[.string ⟨#[]⟩, .string ⟨#[]⟩, .bool false, .slice none 0 0] 24 →
          W'.ownsRow base 9 1 (.slice (some ⟨g, 0, none⟩) K cK) K ((spl 32 l).map strV) → Below w.heap.size w W' → w2.heap.size ≤ W'.heap.size →
          ∃ (r' z' : List (List UInt8)) (P'' : PSt) (v'' : Value), spl 32 l = r' ++ z' ∧ (.int .i64 ((atW r : Int) + (x.length : Int) + 1) : Value) = .int .i64 ((atW r' : Nat) : Int) ∧ (.int .i64 ((r.length : Int) + 1) : Value) = .int .i64 ((r'.length : Nat) : Int) ∧ PrI w w2 l B6 g base K cK r' z' P'' v'' W') := Lib.hid fun P' v' W' h1 h2 h3 h4 h5 h6 h7 h8 => by
        refine ⟨r ++ [x], z, P', v', by rw [hspl]; simp, ?_, ?_, ?_, h2, h3, by rw [List.length_append]; exact h4, h5, h6, h7, h8⟩
        · rw [atW_snoc]; congr 1
        · rw [List.length_append]; rfl
        · rw [accW_snoc, hacc, Nat.zero_add]; exact h1
      have HX : Hid (stepW r.length x P = none → parL l = ⟨zeroP, atW r, 25⟩) := Lib.hid fun h => parL_stop (by omega) hspl hacc h
      obtain ⟨A, hA⟩ : ∃ A, atW r = A := ⟨_, rfl⟩
      obtain ⟨N, hN⟩ : ∃ N, r.length = N := ⟨_, rfl⟩
      rw [hN] at hcell HI HX hrK hPl ⊢
      rw [hA] at hat HI HX ⊢
      have hNK : (N : Int) < (K : Int) := by rw [List.length_cons] at hrK; omega
      have hN0 : (0 : Int) ≤ (N : Int) := by omega
      have hNn : N < K := by omega
      clear hspl hacc hrK hN hA hk hK1
      match N with
      | 0 =>
        have e0 : (((0 : Nat) : Int)) = 0 := rfl
        rw [e0] at HI hNK hN0 ⊢
        have cA := arePitches_w x (by omega) wr (hL.below hBW)
        by_cases hd : x = [45]
        · have HS : Hid (stepW 0 x P = some P) := Lib.hid (by unfold stepW; rw [if_pos rfl, if_pos hd])
          have ea : arP x = true := by rw [hd]; rfl
          have eb : bA x = ({ data := #[45] } : ByteArray) := by rw [hd]; rfl
          rw [ea] at cA
          rw [eb] at cA hcell hsx
          have hxl : x.length = 1 := by rw [hd]; rfl
          rw [hxl] at HI hsx hat
          clear hd ea eb hxl HX
          go_wp2_with fail
          go_at_call 88
          refine cA.mono ?_
          rintro e w5 ⟨rfl, hk5⟩
          clear hcell cA
          have hpp := hpp.below hk5 hpp.lt
          have hzz := hzz.below hk5 hzz.lt
          have hlr := hlr.below hk5
          have hrw := owns_below hrw hk5
          have hBW := hBW.trans (hk5.mono hBW.size)
          have hszO := hsz
          have hsz := Nat.le_trans hsz hk5.size
          clear p0 p1 p2 p3 gp0 gp1 gp2 gp3 z0 z1 z2 z3 gz0 gz1 gz2 gz3
          obtain ⟨⟨p0, p1, p2, p3⟩, gp0, gp1, gp2, gp3⟩ := box4 hpp
          obtain ⟨⟨z0, z1, z2, z3⟩, gz0, gz1, gz2, gz3⟩ := box4 hzz
          go_wp2_with fail
          go_roundw
          case rel => exact HI.out P _ _ HS.out hpp hlr (by omega) hzz hrw hBW hsz
          case measure => simp [numOf'] <;> omega
        · have q1 : ((bA x).toList == [45]) = false := by rw [bA_list, beq_eq_false_iff_ne]; exact hd
          have q2 : (bA x).toList ≠ [45] := by rw [bA_list]; exact hd
          have HS : Hid (stepW 0 x P = if arP x = true then some { P with a := x } else none) := Lib.hid (by
            unfold stepW
            rw [if_pos rfl, if_neg hd, arP_def x hd]
            simp)
          clear hd
          go_wp2_with fail
          go_at_call 88
          refine cA.mono ?_
          rintro e w5 ⟨rfl, hk5⟩
          clear hcell cA
          have hpp := hpp.below hk5 hpp.lt
          have hzz := hzz.below hk5 hzz.lt
          have hlr := hlr.below hk5
          have hrw := owns_below hrw hk5
          have hBW := hBW.trans (hk5.mono hBW.size)
          have hszO := hsz
          have hsz := Nat.le_trans hsz hk5.size
          clear p0 p1 p2 p3 gp0 gp1 gp2 gp3 z0 z1 z2 z3 gz0 gz1 gz2 gz3
          obtain ⟨⟨p0, p1, p2, p3⟩, gp0, gp1, gp2, gp3⟩ := box4 hpp
          obtain ⟨⟨z0, z1, z2, z3⟩, gz0, gz1, gz2, gz3⟩ := box4 hzz
          cases hA : arP x with
          | true =>
            have HS2 : Hid (stepW 0 x P = some { P with a := x }) := Lib.hid (by rw [HS.out, if_pos hA])
            clear HS hA HX
            go_wp2_with fail
            have hpp := hpp.set 0 (.string (bA x))
            simp only [List.setIfInBounds_toArray, List.set_cons_zero] at hpp
            have hzz := hzz.setCell (a := ⟨B6, 0, none⟩) (by have := HNE.out; simp; omega) (.string (bA x))
            have hrw := ownsRow_setCell_other (a := ⟨B6, 0, none⟩) hrw (by have := HNE.out; simp [Value.ownBlock]; omega) (.string (bA x))
            have hBW := hBW.setCell (p := ⟨B6, 0, none⟩) (by have := HNE.out; simp; omega) (.string (bA x))
            have hlr := hlr.set (b := B6) HNE.out.2.2.2.2.1 0 (.string (bA x))
            have hsz : w2.heap.size ≤ (w5.setCell ⟨B6, 0, none⟩ (.string (bA x))).heap.size := by rw [size_set]; exact hsz
            go_roundw
            case rel => exact HI.out { P with a := x } _ _ HS2.out hpp hlr (by show P.L.length ≤ _; omega) hzz hrw hBW hsz
            case measure => simp [numOf'] <;> omega
          | false =>
            have HS2 : Hid (stepW 0 x P = none) := Lib.hid (by rw [HS.out, hA]; rfl)
            clear HS hA HI
            have hpp := hpp.set 0 (.string (bA x))
            simp only [List.setIfInBounds_toArray, List.set_cons_zero] at hpp
            have hzz := hzz.setCell (a := ⟨B6, 0, none⟩) (by have := HNE.out; simp; omega) (.string (bA x))
            have hrw := ownsRow_setCell_other (a := ⟨B6, 0, none⟩) hrw (by have := HNE.out; simp [Value.ownBlock]; omega) (.string (bA x))
            have hBW := hBW.setCell (p := ⟨B6, 0, none⟩) (by have := HNE.out; simp; omega) (.string (bA x))
            have hlr := hlr.set (b := B6) HNE.out.2.2.2.2.1 0 (.string (bA x))
            have hsz : w2.heap.size ≤ (w5.setCell ⟨B6, 0, none⟩ (.string (bA x))).heap.size := by rw [size_set]; exact hsz
            have HR := Lib.hid (HX.out HS2.out)
            obtain ⟨⟨y0, y1, y2, y3⟩, gy0, gy1, gy2, gy3⟩ := box4 hzz
            go_wp2_with fail
            have hz4 := hzz.set4 (.string ⟨#[]⟩) (.string ⟨#[]⟩) (.bool false) (.slice none 0 0)
            refine bodyPost_ret (res_play3 f23 rfl rfl hz4 rfl rfl) rfl ?_
            unfold ParOwn
            rw [HR.out]
            exact ⟨⟨_, rfl, zero_own _ _⟩, below_set4 hBW (Nat.le_refl _) _ _ _ _⟩
      | 1 =>
        have e0 : (((1 : Nat) : Int)) = 1 := rfl
        rw [e0] at HI hNK hN0 ⊢
        by_cases hd : x = [45]
        · have HS : Hid (stepW 1 x P = some P) := Lib.hid (by unfold stepW; rw [if_neg (by decide), if_pos rfl, if_pos hd])
          have eb : bA x = ({ data := #[45] } : ByteArray) := by rw [hd]; rfl
          rw [eb] at hcell hsx
          have hxl : x.length = 1 := by rw [hd]; rfl
          rw [hxl] at HI hsx hat
          clear hd eb hxl HX
          go_wp2_with fail
          go_roundw
          case rel => exact HI.out P _ _ HS.out hpp hlr (by omega) hzz hrw hBW hsz
          case measure => simp [numOf'] <;> omega
        · have q1 : ((bA x).toList == [45]) = false := by rw [bA_list, beq_eq_false_iff_ne]; exact hd
          have q2 : (bA x).toList ≠ [45] := by rw [bA_list]; exact hd
          by_cases hx0 : x = []
          · have HS2 : Hid (stepW 1 x P = none) := Lib.hid (by
              unfold stepW
              rw [if_neg (by decide), if_pos rfl, if_neg hd, if_neg (fun q => by rw [hx0] at q; exact absurd q.1 (by decide))])
            have eb : bA x = ({ data := #[] } : ByteArray) := by rw [hx0]; rfl
            rw [eb] at hcell q1 q2
            clear hd hx0 eb HI hsx
            have hpp := hpp.set 1 (.string ⟨#[]⟩)
            simp only [List.setIfInBounds_toArray, List.set_cons_zero, List.set_cons_succ] at hpp
            have hzz := hzz.setCell (a := ⟨B6, 1, none⟩) (by have := HNE.out; simp; omega) (.string ⟨#[]⟩)
            have hrw := ownsRow_setCell_other (a := ⟨B6, 1, none⟩) hrw (by have := HNE.out; simp [Value.ownBlock]; omega) (.string ⟨#[]⟩)
            have hBW := hBW.setCell (p := ⟨B6, 1, none⟩) (by have := HNE.out; simp; omega) (.string ⟨#[]⟩)
            have hlr := hlr.set (b := B6) HNE.out.2.2.2.2.1 1 (.string ⟨#[]⟩)
            have hsz : w2.heap.size ≤ (wr.setCell ⟨B6, 1, none⟩ (.string ⟨#[]⟩)).heap.size := by rw [size_set]; exact hsz
            have HR := Lib.hid (HX.out HS2.out)
            obtain ⟨⟨y0, y1, y2, y3⟩, gy0, gy1, gy2, gy3⟩ := box4 hzz
            go_wp2_with fail
            have hz4 := hzz.set4 (.string ⟨#[]⟩) (.string ⟨#[]⟩) (.bool false) (.slice none 0 0)
            refine bodyPost_ret (res_play3 f23 rfl rfl hz4 rfl rfl) rfl ?_
            unfold ParOwn
            rw [HR.out]
            exact ⟨⟨_, rfl, zero_own _ _⟩, below_set4 hBW (Nat.le_refl _) _ _ _ _⟩
          · have r1 : ((bA x).toList == []) = false := by rw [bA_list, beq_eq_false_iff_ne]; exact hx0
            have r2 : (bA x).toList ≠ [] := by rw [bA_list]; exact hx0
            have cE := isEvent_w x wr (hL.below hBW)
            have HS : Hid (stepW 1 x P = if isEv x = true then some { P with e := x } else none) := Lib.hid (by
              unfold stepW
              rw [if_neg (by decide), if_pos rfl, if_neg hd, isEv_def x hx0]
              simp)
            clear hd hx0
            go_wp2_with fail
            go_at_call 75
            refine cE.mono ?_
            rintro e w5 ⟨rfl, hk5⟩
            clear hcell cE
            have hpp := hpp.below hk5 hpp.lt
            have hzz := hzz.below hk5 hzz.lt
            have hlr := hlr.below hk5
            have hrw := owns_below hrw hk5
            have hBW := hBW.trans (hk5.mono hBW.size)
            have hszO := hsz
            have hsz := Nat.le_trans hsz hk5.size
            clear p0 p1 p2 p3 gp0 gp1 gp2 gp3 z0 z1 z2 z3 gz0 gz1 gz2 gz3
            obtain ⟨⟨p0, p1, p2, p3⟩, gp0, gp1, gp2, gp3⟩ := box4 hpp
            obtain ⟨⟨z0, z1, z2, z3⟩, gz0, gz1, gz2, gz3⟩ := box4 hzz
            cases hA : isEv x with
            | true =>
              have HS2 : Hid (stepW 1 x P = some { P with e := x }) := Lib.hid (by rw [HS.out, if_pos hA])
              clear HS hA HX
              go_wp2_with fail
              have hpp := hpp.set 1 (.string (bA x))
              simp only [List.setIfInBounds_toArray, List.set_cons_zero, List.set_cons_succ] at hpp
              have hzz := hzz.setCell (a := ⟨B6, 1, none⟩) (by have := HNE.out; simp; omega) (.string (bA x))
              have hrw := ownsRow_setCell_other (a := ⟨B6, 1, none⟩) hrw (by have := HNE.out; simp [Value.ownBlock]; omega) (.string (bA x))
              have hBW := hBW.setCell (p := ⟨B6, 1, none⟩) (by have := HNE.out; simp; omega) (.string (bA x))
              have hlr := hlr.set (b := B6) HNE.out.2.2.2.2.1 1 (.string (bA x))
              have hsz : w2.heap.size ≤ (w5.setCell ⟨B6, 1, none⟩ (.string (bA x))).heap.size := by rw [size_set]; exact hsz
              go_roundw
              case rel => exact HI.out { P with e := x } _ _ HS2.out hpp hlr (by show P.L.length ≤ _; omega) hzz hrw hBW hsz
              case measure => simp [numOf'] <;> omega
            | false =>
              have HS2 : Hid (stepW 1 x P = none) := Lib.hid (by rw [HS.out, hA]; rfl)
              clear HS hA HI
              have hpp := hpp.set 1 (.string (bA x))
              simp only [List.setIfInBounds_toArray, List.set_cons_zero, List.set_cons_succ] at hpp
              have hzz := hzz.setCell (a := ⟨B6, 1, none⟩) (by have := HNE.out; simp; omega) (.string (bA x))
              have hrw := ownsRow_setCell_other (a := ⟨B6, 1, none⟩) hrw (by have := HNE.out; simp [Value.ownBlock]; omega) (.string (bA x))
              have hBW := hBW.setCell (p := ⟨B6, 1, none⟩) (by have := HNE.out; simp; omega) (.string (bA x))
              have hlr := hlr.set (b := B6) HNE.out.2.2.2.2.1 1 (.string (bA x))
              have hsz : w2.heap.size ≤ (w5.setCell ⟨B6, 1, none⟩ (.string (bA x))).heap.size := by rw [size_set]; exact hsz
              have HR := Lib.hid (HX.out HS2.out)
              obtain ⟨⟨y0, y1, y2, y3⟩, gy0, gy1, gy2, gy3⟩ := box4 hzz
              go_wp2_with fail
              have hz4 := hzz.set4 (.string ⟨#[]⟩) (.string ⟨#[]⟩) (.bool false) (.slice none 0 0)
              refine bodyPost_ret (res_play3 f23 rfl rfl hz4 rfl rfl) rfl ?_
              unfold ParOwn
              rw [HR.out]
              exact ⟨⟨_, rfl, zero_own _ _⟩, below_set4 hBW (Nat.le_refl _) _ _ _ _⟩
      | N + 2 =>
        obtain ⟨M, hM⟩ : ∃ M, N + 2 = M := ⟨_, rfl⟩
        rw [hM] at hcell HI HX hPl hNK hN0 hNn ⊢
        have m2 : 2 ≤ M := by omega
        have t0 : ((M : Int) == 0) = false := by rw [beq_eq_false_iff_ne]; omega
        have t1 : ((M : Int) == 1) = false := by rw [beq_eq_false_iff_ne]; omega
        by_cases hlate : M = 2 ∧ x = [108, 97, 116, 101]
        · have HS : Hid (stepW M x P = some { P with lx := true }) := Lib.hid (by
            unfold stepW
            rw [if_neg (by omega), if_neg (by omega), if_pos hlate])
          have eb : bA x = ({ data := #[108, 97, 116, 101] } : ByteArray) := by rw [hlate.2]; rfl
          have hxl : x.length = 4 := by rw [hlate.2]; rfl
          have hM2 := hlate.1
          rw [eb] at hcell hsx
          rw [hxl] at HI hsx hat
          clear hlate eb hxl HX hM
          subst hM2
          have e2 : (((2 : Nat) : Int)) = 2 := rfl
          rw [e2] at HI hNK hN0 ⊢
          go_wp2_with fail
          have hpp := hpp.set 2 (.bool true)
          simp only [List.setIfInBounds_toArray, List.set_cons_zero, List.set_cons_succ] at hpp
          have hzz := hzz.setCell (a := ⟨B6, 2, none⟩) (by have := HNE.out; simp; omega) (.bool true)
          have hrw := ownsRow_setCell_other (a := ⟨B6, 2, none⟩) hrw (by have := HNE.out; simp [Value.ownBlock]; omega) (.bool true)
          have hBW := hBW.setCell (p := ⟨B6, 2, none⟩) (by have := HNE.out; simp; omega) (.bool true)
          have hlr := hlr.set (b := B6) HNE.out.2.2.2.2.1 2 (.bool true)
          have hsz : w2.heap.size ≤ (wr.setCell ⟨B6, 2, none⟩ (.bool true)).heap.size := by rw [size_set]; exact hsz
          go_roundw
          case rel => exact HI.out { P with lx := true } _ _ HS.out hpp hlr (by show P.L.length ≤ _; omega) hzz hrw hBW hsz
          case measure => simp [numOf'] <;> omega
        · have HS : Hid (stepW M x P = if pmOk x = true then some { P with L := P.L ++ [pmM x] } else none) := Lib.hid (by
            unfold stepW
            rw [if_neg (by omega), if_neg (by omega), if_neg hlate])
          have t2 : (((M : Int) == 2) = false ∧ 1 = 1) ∨ (((M : Int) == 2) = true ∧ ((bA x).toList == [108, 97, 116, 101]) = false ∧ (bA x).toList ≠ [108, 97, 116, 101]) := by
            by_cases q : M = 2
            · right
              have q' : x ≠ [108, 97, 116, 101] := fun e => hlate ⟨q, e⟩
              exact ⟨by rw [beq_iff_eq]; omega, by rw [bA_list, beq_eq_false_iff_ne]; exact q', by rw [bA_list]; exact q'⟩
            · left
              exact ⟨by rw [beq_eq_false_iff_ne]; omega, rfl⟩
          have cP := parseMoveR_w x (by omega) wr
          clear hM hlate
          rcases t2 with ⟨t2, -⟩ | ⟨t2, t3, t4⟩
          · as_aux_lemma =>
              go_wp2_with fail
              go_at_call 89
              refine cP.mono ?_
              rintro e w5 ⟨⟨c, rfl, hown⟩, hk5⟩
              have hszO := hsz
              clear hcell cP
              obtain ⟨f1, f2, xb, s, a5, k5, c5⟩ := c
              dsimp only at hown ⊢
              have hal := (Below.refl w5.heap.size w5).alloc (Nat.le_refl _) (.cells #[.int .i64 f1, .int .i64 f2, .bool xb, .string s, .slice a5 k5 c5] 27)
              have hk := hk5.trans (hal.mono hk5.size)
              have hpp := hpp.below hk hpp.lt
              have hzz := hzz.below hk hzz.lt
              have hlr := hlr.below hk
              have hrw := owns_below hrw hk
              have hBW := hBW.trans (hk.mono hBW.size)
              have hsz5 := Nat.le_trans hsz hk5.size
              have hsz := Nat.le_trans hsz hk.size
              have hN5 := at_new w5 #[.int .i64 f1, .int .i64 f2, .bool xb, .string s, .slice a5 k5 c5] 27
              have hown := fun h => ((hown h).le hszO).below hal
              clear p0 p1 p2 p3 gp0 gp1 gp2 gp3 z0 z1 z2 z3 gz0 gz1 gz2 gz3
              have hs5 : (w5.alloc (.cells #[.int .i64 f1, .int .i64 f2, .bool xb, .string s, .slice a5 k5 c5] 27)).heap.size = w5.heap.size + 1 := by simp
              clear hal hk hk5
              go_wp2_with (first
                | (with_reducible refine halt_at ?_)
                | fail)
              unfold Halt
              obtain ⟨W5, hW5⟩ : ∃ W : World, w5.alloc (.cells #[.int .i64 f1, .int .i64 f2, .bool xb, .string s, .slice a5 k5 c5] 27) = W := ⟨_, rfl⟩
              rw [hW5] at hN5 hlr hpp hzz hrw hown hBW hsz hs5 ⊢
              clear hW5
              have hs5' : w5.heap.size < W5.heap.size := by omega
              clear hs5
              obtain ⟨⟨x0, x1, x2, x3, x4⟩, -⟩ := box5 hN5
              obtain ⟨⟨p0, p1, p2, p3⟩, gp0, gp1, gp2, gp3⟩ := box4 hpp
              have hal2 := (Below.refl W5.heap.size W5).alloc (Nat.le_refl _) (.cells #[.int .i64 f1, .int .i64 f2, .bool xb, .string s, .slice a5 k5 c5] 27)
              have hlrA := hlr.below hal2
              go_wp2_with (first
                | (with_reducible refine haltM ?_)
                | fail)
              unfold Halt
              refine wpList_sliceM _ rfl _ rfl f1 f2 xb s a5 k5 c5 rfl ?_
              refine wpList_appendM _ rfl _ _ rfl w2.heap.size W5.heap.size P.L _ rfl 1 rfl hlrA ?c1 ⟨f1, f2, xb, s, a5, k5, c5⟩ (at_new _ _ _) ?c2 ?_
              case c1 => omega
              case c2 => simp; omega
              intro a9 k9 c9 w9 hA
              have hppA := (hA.old _ HNE.out.2.2.2.2.1 (by have := HNE.out; simp; omega)).trans (hpp.alloc _)
              have hzzA : At w9 w.heap.size #[.string ⟨#[]⟩, .string ⟨#[]⟩, .bool false, .slice none 0 0] 24 := (hA.old _ (by have := HNE.out; omega) (by have := HNE.out; simp; omega)).trans (hzz.alloc _)
              have hrwA := owns_old (owns_below hrw hal2) (by have := HNE.out; omega) hA
              have hBWA : Below w.heap.size w w9 := hA.below w (hBW.alloc (by have := HNE.out; omega) _) (by have := HNE.out; omega)
              have hszA : w2.heap.size ≤ w9.heap.size := Nat.le_trans hsz (Nat.le_trans hal2.size hA.size)
              have hrowA := fun h => hA.row _ ((hown h).below hal2)
              clear hN5 hlr hpp hzz hrw hown hBW hsz hal2 hlrA hA p0 p1 p2 p3 gp0 gp1 gp2 gp3 x0 x1 x2 x3 x4
              have hppA : At w9 B6 #[.string (bA P.a), .string (bA P.e), .bool P.lx, v] 24 := hppA
              obtain ⟨⟨p0, p1, p2, p3⟩, gp0, gp1, gp2, gp3⟩ := box4 hppA
              obtain ⟨⟨z0, z1, z2, z3⟩, gz0, gz1, gz2, gz3⟩ := box4 hzzA
              have hpp := hppA.set 3 (.slice a9 k9 c9)
              simp only [List.setIfInBounds_toArray, List.set_cons_zero, List.set_cons_succ] at hpp
              have hzz := hzzA.setCell (a := ⟨B6, 3, none⟩) (by have := HNE.out; simp; omega) (.slice a9 k9 c9)
              have hrw := ownsRow_setCell_other (a := ⟨B6, 3, none⟩) hrwA (by have := HNE.out; simp [Value.ownBlock]; omega) (.slice a9 k9 c9)
              have hBW := hBWA.setCell (p := ⟨B6, 3, none⟩) (by have := HNE.out; simp; omega) (.slice a9 k9 c9)
              have hlr := fun h => (hrowA h).set (b := B6) HNE.out.2.2.2.2.1 3 (.slice a9 k9 c9)
              have hsz : w2.heap.size ≤ (w9.setCell ⟨B6, 3, none⟩ (.slice a9 k9 c9)).heap.size := by rw [size_set]; exact hszA
              clear hppA hzzA hrwA hBWA hrowA hszA
              cases hok : pmOk x with
              | true =>
                have HS2 : Hid (stepW M x P = some { P with L := P.L ++ [pmM x] }) := Lib.hid (by rw [HS.out, if_pos hok])
                have hlr := hlr hok
                clear HS hok HX
                go_wp2_with fail
                go_roundw
                case rel => exact HI.out { P with L := P.L ++ [pmM x] } _ _ HS2.out hpp hlr (by show (P.L ++ [pmM x]).length ≤ _; rw [List.length_append]; simp; omega) hzz hrw hBW hsz
                case measure => simp [numOf'] <;> omega
              | false =>
                have HS2 : Hid (stepW M x P = none) := Lib.hid (by rw [HS.out, hok]; rfl)
                clear HS hok HI hlr
                have HR := Lib.hid (HX.out HS2.out)
                obtain ⟨⟨y0, y1, y2, y3⟩, gy0, gy1, gy2, gy3⟩ := box4 hzz
                go_wp2_with fail
                have hz4 := hzz.set4 (.string ⟨#[]⟩) (.string ⟨#[]⟩) (.bool false) (.slice none 0 0)
                refine bodyPost_ret (res_play3 f23 rfl rfl hz4 rfl rfl) rfl ?_
                unfold ParOwn
                rw [HR.out]
                exact ⟨⟨_, rfl, zero_own _ _⟩, below_set4 hBW (Nat.le_refl _) _ _ _ _⟩
          · as_aux_lemma =>
              go_wp2_with fail
              go_at_call 89
              refine cP.mono ?_
              rintro e w5 ⟨⟨c, rfl, hown⟩, hk5⟩
              have hszO := hsz
              clear hcell cP
              obtain ⟨f1, f2, xb, s, a5, k5, c5⟩ := c
              dsimp only at hown ⊢
              have hal := (Below.refl w5.heap.size w5).alloc (Nat.le_refl _) (.cells #[.int .i64 f1, .int .i64 f2, .bool xb, .string s, .slice a5 k5 c5] 27)
              have hk := hk5.trans (hal.mono hk5.size)
              have hpp := hpp.below hk hpp.lt
              have hzz := hzz.below hk hzz.lt
              have hlr := hlr.below hk
              have hrw := owns_below hrw hk
              have hBW := hBW.trans (hk.mono hBW.size)
              have hsz5 := Nat.le_trans hsz hk5.size
              have hsz := Nat.le_trans hsz hk.size
              have hN5 := at_new w5 #[.int .i64 f1, .int .i64 f2, .bool xb, .string s, .slice a5 k5 c5] 27
              have hown := fun h => ((hown h).le hszO).below hal
              clear p0 p1 p2 p3 gp0 gp1 gp2 gp3 z0 z1 z2 z3 gz0 gz1 gz2 gz3
              have hs5 : (w5.alloc (.cells #[.int .i64 f1, .int .i64 f2, .bool xb, .string s, .slice a5 k5 c5] 27)).heap.size = w5.heap.size + 1 := by simp
              clear hal hk hk5
              go_wp2_with (first
                | (with_reducible refine halt_at ?_)
                | fail)
              unfold Halt
              obtain ⟨W5, hW5⟩ : ∃ W : World, w5.alloc (.cells #[.int .i64 f1, .int .i64 f2, .bool xb, .string s, .slice a5 k5 c5] 27) = W := ⟨_, rfl⟩
              rw [hW5] at hN5 hlr hpp hzz hrw hown hBW hsz hs5 ⊢
              clear hW5
              have hs5' : w5.heap.size < W5.heap.size := by omega
              clear hs5
              obtain ⟨⟨x0, x1, x2, x3, x4⟩, -⟩ := box5 hN5
              obtain ⟨⟨p0, p1, p2, p3⟩, gp0, gp1, gp2, gp3⟩ := box4 hpp
              have hal2 := (Below.refl W5.heap.size W5).alloc (Nat.le_refl _) (.cells #[.int .i64 f1, .int .i64 f2, .bool xb, .string s, .slice a5 k5 c5] 27)
              have hlrA := hlr.below hal2
              go_wp2_with (first
                | (with_reducible refine haltM ?_)
                | fail)
              unfold Halt
              refine wpList_sliceM _ rfl _ rfl f1 f2 xb s a5 k5 c5 rfl ?_
              refine wpList_appendM _ rfl _ _ rfl w2.heap.size W5.heap.size P.L _ rfl 1 rfl hlrA ?c1 ⟨f1, f2, xb, s, a5, k5, c5⟩ (at_new _ _ _) ?c2 ?_
              case c1 => omega
              case c2 => simp; omega
              intro a9 k9 c9 w9 hA
              have hppA := (hA.old _ HNE.out.2.2.2.2.1 (by have := HNE.out; simp; omega)).trans (hpp.alloc _)
              have hzzA : At w9 w.heap.size #[.string ⟨#[]⟩, .string ⟨#[]⟩, .bool false, .slice none 0 0] 24 := (hA.old _ (by have := HNE.out; omega) (by have := HNE.out; simp; omega)).trans (hzz.alloc _)
              have hrwA := owns_old (owns_below hrw hal2) (by have := HNE.out; omega) hA
              have hBWA : Below w.heap.size w w9 := hA.below w (hBW.alloc (by have := HNE.out; omega) _) (by have := HNE.out; omega)
              have hszA : w2.heap.size ≤ w9.heap.size := Nat.le_trans hsz (Nat.le_trans hal2.size hA.size)
              have hrowA := fun h => hA.row _ ((hown h).below hal2)
              clear hN5 hlr hpp hzz hrw hown hBW hsz hal2 hlrA hA p0 p1 p2 p3 gp0 gp1 gp2 gp3 x0 x1 x2 x3 x4
              have hppA : At w9 B6 #[.string (bA P.a), .string (bA P.e), .bool P.lx, v] 24 := hppA
              obtain ⟨⟨p0, p1, p2, p3⟩, gp0, gp1, gp2, gp3⟩ := box4 hppA
              obtain ⟨⟨z0, z1, z2, z3⟩, gz0, gz1, gz2, gz3⟩ := box4 hzzA
              have hpp := hppA.set 3 (.slice a9 k9 c9)
              simp only [List.setIfInBounds_toArray, List.set_cons_zero, List.set_cons_succ] at hpp
              have hzz := hzzA.setCell (a := ⟨B6, 3, none⟩) (by have := HNE.out; simp; omega) (.slice a9 k9 c9)
              have hrw := ownsRow_setCell_other (a := ⟨B6, 3, none⟩) hrwA (by have := HNE.out; simp [Value.ownBlock]; omega) (.slice a9 k9 c9)
              have hBW := hBWA.setCell (p := ⟨B6, 3, none⟩) (by have := HNE.out; simp; omega) (.slice a9 k9 c9)
              have hlr := fun h => (hrowA h).set (b := B6) HNE.out.2.2.2.2.1 3 (.slice a9 k9 c9)
              have hsz : w2.heap.size ≤ (w9.setCell ⟨B6, 3, none⟩ (.slice a9 k9 c9)).heap.size := by rw [size_set]; exact hszA
              clear hppA hzzA hrwA hBWA hrowA hszA
              cases hok : pmOk x with
              | true =>
                have HS2 : Hid (stepW M x P = some { P with L := P.L ++ [pmM x] }) := Lib.hid (by rw [HS.out, if_pos hok])
                have hlr := hlr hok
                clear HS hok HX
                go_wp2_with fail
                go_roundw
                case rel => exact HI.out { P with L := P.L ++ [pmM x] } _ _ HS2.out hpp hlr (by show (P.L ++ [pmM x]).length ≤ _; rw [List.length_append]; simp; omega) hzz hrw hBW hsz
                case measure => simp [numOf'] <;> omega
              | false =>
                have HS2 : Hid (stepW M x P = none) := Lib.hid (by rw [HS.out, hok]; rfl)
                clear HS hok HI hlr
                have HR := Lib.hid (HX.out HS2.out)
                obtain ⟨⟨y0, y1, y2, y3⟩, gy0, gy1, gy2, gy3⟩ := box4 hzz
                go_wp2_with fail
                have hz4 := hzz.set4 (.string ⟨#[]⟩) (.string ⟨#[]⟩) (.bool false) (.slice none 0 0)
                refine bodyPost_ret (res_play3 f23 rfl rfl hz4 rfl rfl) rfl ?_
                unfold ParOwn
                rw [HR.out]
                exact ⟨⟨_, rfl, zero_own _ _⟩, below_set4 hBW (Nat.le_refl _) _ _ _ _⟩
end Go.Proofs.Tryz

namespace Go.Proofs.Tryz
open Go Go.Am Go.ChangeShapes Go.WideShapes Go.ChangeAt Go.RowKit
set_option maxRecDepth 100000

theorem u86 : prog.underlying 86 = some (.slice 24) := by kernel_rfl
/-- A play, as it lies somewhere: its strings' bytes, and its moves. -/
structure PlH where
  a : List UInt8
  e : List UInt8
  lx : Bool
  d : Nat → MvD
  n : Nat
def PlH.cells (p : PlH) (mv : Value) : List Value := [.string (bA p.a), .string (bA p.e), .bool p.lx, mv]
/-- A list of plays in memory. -/
def IsPlays (w : World) (v : Value) (p : Nat → PlH) (n : Nat) : Prop :=
  ∃ a c, v = .slice a n c ∧ n ≤ c ∧ (n ≠ 0 → ∃ b off, a = some ⟨b, off, none⟩ ∧ ∀ i, i < n → ∃ mv, cellsAt w b (off + 4 * i) 4 = ((p i).cells mv).map some ∧ IsMoves w mv (p i).d (p i).n)
theorem IsPlays.below {w W : World} {v : Value} {p : Nat → PlH} {n : Nat} (h : IsPlays w v p n) (hb : Below w.heap.size w W) : IsPlays W v p n := by
  obtain ⟨a, c, rfl, h1, h2⟩ := h
  refine ⟨a, c, rfl, h1, fun h0 => ?_⟩
  obtain ⟨b, off, e, h3⟩ := h2 h0
  refine ⟨b, off, e, fun i hi => ?_⟩
  obtain ⟨mv, h4, h5⟩ := h3 i hi
  refine ⟨mv, ?_, h5.below hb⟩
  simp only [cellsAt, PlH.cells, List.map_cons, List.map_nil, List.cons.injEq, and_true] at h4 ⊢
  obtain ⟨g0, g1, g2, g3⟩ := h4
  exact ⟨(hb.cell (cell_under g0)).trans g0, (hb.cell (cell_under g1)).trans g1, (hb.cell (cell_under g2)).trans g2, (hb.cell (cell_under g3)).trans g3⟩
/-- The cells of one play of a list. -/
theorem IsPlays.at {w : World} {v : Value} {p : Nat → PlH} {n i : Nat} (h : IsPlays w v p n) (hi : i < n) :
    ∃ b off c ad k kc, v = .slice (some ⟨b, off, none⟩) n c ∧ n ≤ c ∧ IsMoves w (.slice ad k kc) (p i).d (p i).n ∧ k = (p i).n ∧ w.cell? ⟨b, off + i * 4, none⟩ = some (.string (bA (p i).a)) ∧ w.cell? ⟨b, off + i * 4 + 1, none⟩ = some (.string (bA (p i).e)) ∧
      w.cell? ⟨b, off + i * 4 + 2, none⟩ = some (.bool (p i).lx) ∧ w.cell? ⟨b, off + i * 4 + 3, none⟩ = some (.slice ad k kc) := by
  obtain ⟨a, c, rfl, h1, h2⟩ := h
  obtain ⟨b, off, rfl, h3⟩ := h2 (by omega)
  obtain ⟨mv, h4, h5⟩ := h3 i hi
  have h6 := h5
  obtain ⟨ad, kc, rfl, -, -⟩ := h6
  simp only [cellsAt, PlH.cells, List.map_cons, List.map_nil, List.cons.injEq, and_true, Nat.mul_comm 4 i] at h4
  obtain ⟨g0, g1, g2, g3⟩ := h4
  exact ⟨b, off, c, ad, _, kc, rfl, h1, h5, rfl, g0, g1, g2, g3⟩

section
variable {H : Type} {enc : TypeId × Value → H} {w : World} {base : Nat} {spare : Nat → Bool} {held : Bool}
theorem play_cells {fuel : Nat} {cs : List Value} {x : DataW H × List MemPlace} (h : DataW.trod enc prog w base spare held fuel 24 cs = some x) : ∃ (p : PlH) (mv : Value), cs = p.cells mv ∧ IsMoves w mv p.d p.n := by
  obtain ⟨y0, y1, yn, en, lx, d, n, pvv, ev, mv, rfl, ⟨l1, rfl, -, -⟩, ⟨l2, rfl, -, -⟩, hm⟩ := play_open h
  exact ⟨⟨l1, l2, decide (lx ≠ 0), d, n⟩, mv, rfl, hm⟩
theorem plays_open {fuel : Nat} {v : Value} {x : DataW H × List MemPlace} (h : DataW.trod enc prog w base spare held fuel 86 [v] = some x) : ∃ (p : Nat → PlH) (n : Nat), IsPlays w v p n := by
  rcases DataW.trod_slice u86 h with ⟨h1, _⟩ | ⟨a, len, cap, elems, rest, m, _, h1, _, _, hlc, _, hlen, hel, _⟩
  · simp only [List.cons.injEq, and_true] at h1
    subst h1
    exact ⟨fun _ => ⟨[], [], false, fun _ => ⟨0, 0, 0, fun _ => 0, 0, 0, fun _ => 0, 0, 0⟩, 0⟩, 0, none, 0, rfl, Nat.le_refl _, fun h => absurd rfl h⟩
  · simp only [List.cons.injEq, and_true] at h1
    subst h1
    have each : ∀ i, i < len → ∃ (p : PlH), (a.add (i * 4) = ⟨(a.add (i * 4)).block, (a.add (i * 4)).off, none⟩) ∧ ∃ mv, (∀ j, j < 4 → w.cell? ((a.add (i * 4)).add j) = (p.cells mv)[j]?) ∧ IsMoves w mv p.d p.n := fun i hi => by
      have h3 := hel i hi
      rw [c24] at h3
      have hi' : i < elems.length := by omega
      rw [List.getElem?_eq_getElem hi', Option.bind_eq_some_iff] at h3
      obtain ⟨cs, hcs, h4⟩ := h3
      obtain ⟨p, mv, e, hb⟩ := play_cells h4
      have hc := (World.cells?_some hcs).2.2
      subst e
      refine ⟨p, ?_, mv, hc, hb⟩
      have h0 := hc 0 (by omega)
      have : (a.add (i * 4)).add 0 = a.add (i * 4) := by simp [Addr.add]
      rw [this] at h0
      exact spot_none h0
    refine ⟨fun i => if h : i < len then (each i h).choose else ⟨[], [], false, fun _ => ⟨0, 0, 0, fun _ => 0, 0, 0, fun _ => 0, 0, 0⟩, 0⟩, len, some a, cap, rfl, hlc, fun h0 => ?_⟩
    have ha : a = ⟨a.block, a.off, none⟩ := by
      have := (each 0 (by omega)).choose_spec.1
      simpa [Addr.add] using this
    refine ⟨a.block, a.off, by rw [← ha], fun i hi => ?_⟩
    obtain ⟨_, mv, hc, hb⟩ := (each i hi).choose_spec
    simp only [dif_pos hi]
    refine ⟨mv, ?_, hb⟩
    have ea : ∀ j, (a.add (i * 4)).add j = ⟨a.block, a.off + 4 * i + j, none⟩ := fun j => by
      rw [ha, add_adr, add_adr, Nat.mul_comm i 4]
    have g0 := hc 0 (by omega)
    rw [ea 0] at g0
    have g1 := hc 1 (by omega)
    rw [ea 1] at g1
    have g2 := hc 2 (by omega)
    rw [ea 2] at g2
    have g3 := hc 3 (by omega)
    rw [ea 3] at g3
    simp only [Nat.add_zero, PlH.cells, List.getElem?_cons_zero, List.getElem?_cons_succ] at g0 g1 g2 g3
    simp only [cellsAt, PlH.cells]
    rw [g0, g1, show a.off + 4 * i + 1 + 1 = a.off + 4 * i + 2 by omega, g2, show a.off + 4 * i + 2 + 1 = a.off + 4 * i + 3 by omega, g3]
    rfl
end
end Go.Proofs.Tryz

namespace Go.Proofs.Tryz
open Go Go.Am Go.RowKit Go.Dr
set_option maxRecDepth 100000

/-- What CheckPlay answers of a play of a list. -/
def plH (p : PlH) : Int := plV (yB p.a) 0 (p.a.length : Nat) (yB p.e) 0 (p.e.length : Nat) p.d p.n
/-- The first error from the play i on, k plays. -/
def chkK (p : Nat → PlH) : Nat → Nat → Int
  | _, 0 => 0
  | i, k + 1 => if plH (p i) = 0 then chkK p (i + 1) k else plH (p i)
def chkL (p : Nat → PlH) (n : Nat) : Int := if 256 < n then 5 else chkK p 0 n

section
variable {w : World} {p : Nat → PlH} {n : Nat} {v : Value}
theorem checkPlays_w (hL : Laid w) (hm : IsPlays w v p n) : Calls prog 61 #[v] w fun e w' => e = .returned (.int .i64 (chkL p n)) ∧ Below w.heap.size w w' := by
  have hm0 := hm
  obtain ⟨ad, c, rfl, hnc, -⟩ := hm0
  by_cases h : 256 < n
  · have hh : (256 : Int) < (n : Int) := by omega
    have e : chkL p n = 5 := if_pos h
    rw [e]
    clear e
    go_enter func61, ntmps61
    go_wp2
    go_ret
    exact ⟨rfl, Below.refl _ _⟩
  · have hh : ¬ (256 : Int) < (n : Int) := by omega
    have e : chkL p n = chkK p 0 n := if_neg h
    rw [e]
    have HE : Hid (chkK p 0 n = chkK p 0 (n - 0)) := Lib.hid rfl
    clear e
    go_enter func61, ntmps61
    go_wp2_with fail
    go_loopw [3] (fun s wr => ∃ i : Nat, i ≤ n ∧ s = .int .i64 i ∧ Hid (chkK p 0 n = chkK p i (n - i)) ∧ Below w.heap.size w wr) (fun s _ => n - (numOf' s).toNat)
    case atStart => exact ⟨0, Nat.zero_le _, rfl, HE, Below.refl _ _⟩
    case round =>
      clear HE
      obtain ⟨i, hi, rfl, hE, hb⟩ := hrel
      by_cases hin : i < n
      · obtain ⟨b, off, c', ad', k, kc, e, -, hmv, rfl, c0, c1, c2, c3⟩ := (hm.below hb).at hin
        simp only [Value.slice.injEq, true_and] at e
        obtain ⟨rfl, rfl⟩ := e
        have cC := chkR_p (p i).lx (hL.below hb) (isStr_bA (p i).a) (isStr_bA (p i).e) hmv
        obtain ⟨q, hq⟩ : ∃ q, plH (p i) = q := ⟨_, rfl⟩
        have cC : Calls prog 17 #[.agg #[.string (bA (p i).a), .string (bA (p i).e), .bool (p i).lx, .slice ad' (p i).n kc]] wr fun e w' => e = .returned (.int .i64 q) ∧ Below wr.heap.size wr w' := by rw [← hq]; exact cC
        have hs : Hid (chkK p i (n - i) = if q = 0 then chkK p (i + 1) (n - (i + 1)) else q) := Lib.hid (by
          rw [show n - i = (n - (i + 1)) + 1 by omega, chkK, hq])
        have hbE := Lib.hid hb.size
        clear hq hm hmv
        go_wp2_with fail
        go_at_call 17
        refine cC.mono ?_
        rintro e w2 ⟨rfl, hk⟩
        have hb2 := hb.trans (hk.mono hb.size)
        clear cC c0 c1 c2 c3
        by_cases h0 : q = 0
        · subst h0
          have hE2 : Hid (chkK p 0 n = chkK p (i + 1) (n - (i + 1))) := Lib.hid (by rw [hE.out, hs.out, if_pos rfl])
          clear hE hs
          go_wp2_with fail
          go_roundw
          case rel => exact ⟨i + 1, by omega, by go_num, hE2, hb2⟩
          case measure => simp [numOf'] <;> omega
        · have hE2 : Hid (chkK p 0 n = q) := Lib.hid (by rw [hE.out, hs.out, if_neg h0])
          have h0' : (q != 0) = true := by simpa using h0
          clear hE hs
          go_wp2_with fail
          go_ret
          exact ⟨by rw [hE2.out]; rfl, hb2⟩
      · obtain rfl : i = n := by omega
        have hE2 : Hid (chkK p 0 i = 0) := Lib.hid (by rw [hE.out, Nat.sub_self, chkK])
        clear hE hm
        go_wp2_with fail
        go_ret
        exact ⟨by rw [hE2.out]; rfl, hb⟩
theorem checkAll_w (hL : Laid w) (hm : IsPlays w v p n) : Calls prog 108 #[v] w fun e w' => e = .returned (.int .i64 (chkL p n)) ∧ Below w.heap.size w w' := by
  have hm0 := hm
  obtain ⟨ad, c, rfl, hnc, -⟩ := hm0
  by_cases h : 256 < n
  · have hh : (256 : Int) < (n : Int) := by omega
    have e : chkL p n = 5 := if_pos h
    rw [e]
    clear e
    go_enter func108, ntmps108
    go_wp2
    go_ret
    exact ⟨rfl, Below.refl _ _⟩
  · have hh : ¬ (256 : Int) < (n : Int) := by omega
    have e : chkL p n = chkK p 0 n := if_neg h
    rw [e]
    have HE : Hid (chkK p 0 n = chkK p 0 (n - 0)) := Lib.hid rfl
    clear e
    go_enter func108, ntmps108
    go_wp2_with fail
    go_loopw [11] (fun s wr => ∃ i : Nat, i ≤ n ∧ s = .int .i64 i ∧ Hid (chkK p 0 n = chkK p i (n - i)) ∧ Below w.heap.size w wr) (fun s _ => n - (numOf' s).toNat)
    case atStart => exact ⟨0, Nat.zero_le _, rfl, HE, Below.refl _ _⟩
    case round =>
      clear HE
      obtain ⟨i, hi, rfl, hE, hb⟩ := hrel
      by_cases hin : i < n
      · obtain ⟨b, off, c', ad', k, kc, e, -, hmv, rfl, c0, c1, c2, c3⟩ := (hm.below hb).at hin
        simp only [Value.slice.injEq, true_and] at e
        obtain ⟨rfl, rfl⟩ := e
        have hal := (Below.refl wr.heap.size wr).alloc (Nat.le_refl _) (.cells #[.string (bA (p i).a), .string (bA (p i).e), .bool (p i).lx, .slice ad' (p i).n kc] 24)
        have hB := hb.trans (hal.mono hb.size)
        have cC := chk_b (p i).lx (hL.below hb) (isStr_bA (p i).a) (isStr_bA (p i).e) hmv _ hal
        obtain ⟨q, hq⟩ : ∃ q, plH (p i) = q := ⟨_, rfl⟩
        have cC : Calls prog 15 #[.agg #[.string (bA (p i).a), .string (bA (p i).e), .bool (p i).lx, .slice ad' (p i).n kc]] (wr.alloc (.cells #[.string (bA (p i).a), .string (bA (p i).e), .bool (p i).lx, .slice ad' (p i).n kc] 24)) fun e w' => e = .returned (.int .i64 q) ∧ Below (wr.alloc (.cells #[.string (bA (p i).a), .string (bA (p i).e), .bool (p i).lx, .slice ad' (p i).n kc] 24)).heap.size (wr.alloc (.cells #[.string (bA (p i).a), .string (bA (p i).e), .bool (p i).lx, .slice ad' (p i).n kc] 24)) w' := by rw [← hq]; exact cC
        have hs : Hid (chkK p i (n - i) = if q = 0 then chkK p (i + 1) (n - (i + 1)) else q) := Lib.hid (by
          rw [show n - i = (n - (i + 1)) + 1 by omega, chkK, hq])
        clear hq hm hmv hal
        go_wp2_with fail
        go_at_call 15
        refine cC.mono ?_
        rintro e w2 ⟨rfl, hk⟩
        have hb2 := hB.trans (hk.mono hB.size)
        clear cC c0 c1 c2 c3 hB hk
        by_cases h0 : q = 0
        · subst h0
          have hE2 : Hid (chkK p 0 n = chkK p (i + 1) (n - (i + 1))) := Lib.hid (by rw [hE.out, hs.out, if_pos rfl])
          clear hE hs
          go_wp2_with fail
          go_roundw
          case rel => exact ⟨i + 1, by omega, by go_num, hE2, hb2⟩
          case measure => simp [numOf'] <;> omega
        · have hE2 : Hid (chkK p 0 n = q) := Lib.hid (by rw [hE.out, hs.out, if_neg h0])
          have h0' : (q != 0) = true := by simpa using h0
          clear hE hs
          go_wp2_with fail
          go_ret
          exact ⟨by rw [hE2.out]; rfl, hb2⟩
      · obtain rfl : i = n := by omega
        have hE2 : Hid (chkK p 0 i = 0) := Lib.hid (by rw [hE.out, Nat.sub_self, chkK])
        clear hE hm
        go_wp2_with fail
        go_ret
        exact ⟨by rw [hE2.out]; rfl, hb⟩
/-- A play of a list is short. -/
def ShH (p : PlH) : Prop := ShortP (p.a.length : Nat) (p.e.length : Nat) p.d p.n
theorem shortPlays_w (hm : IsPlays w v p n) (k : Nat) (bb : Bool) (hbb : bb = true ↔ (¬ ((k < n ∧ n ≤ 256) ∨ 258 < n) ∧ ∀ i, i < n → ShH (p i))) : Calls prog 56 #[v, .int .i64 k] w fun e w' => e = .returned (.bool bb) ∧ Below w.heap.size w w' := by
  have hm0 := hm
  obtain ⟨ad, c, rfl, hnc, -⟩ := hm0
  by_cases h : (k < n ∧ n ≤ 256) ∨ 258 < n
  · obtain rfl : bb = false := by
      cases bb with
      | false => rfl
      | true => exact absurd h (hbb.1 rfl).1
    clear hbb hm
    rcases h with ⟨h1, h2⟩ | h1
    · have e1 : (k : Int) < (n : Int) := by omega
      have e2 : (n : Int) ≤ 256 := by omega
      go_enter func56, ntmps56
      go_wp2
      go_ret
      exact ⟨rfl, Below.refl _ _⟩
    · have e2 : ¬ (n : Int) ≤ 256 := by omega
      have e3 : (258 : Int) < (n : Int) := by omega
      by_cases e1 : (k : Int) < (n : Int)
      · go_enter func56, ntmps56
        go_wp2
        go_ret
        exact ⟨rfl, Below.refl _ _⟩
      · go_enter func56, ntmps56
        go_wp2
        go_ret
        exact ⟨rfl, Below.refl _ _⟩
  · have HB : Hid (bb = true ↔ ∀ i, i < n → ShH (p i)) := Lib.hid (by rw [hbb]; exact ⟨fun q => q.2, fun q => ⟨h, q⟩⟩)
    have e3 : ¬ (258 : Int) < (n : Int) := by omega
    have e4 : (¬ (k : Int) < (n : Int) ∧ 1 = 1) ∨ ((k : Int) < (n : Int) ∧ ¬ (n : Int) ≤ 256) := by omega
    have hn8 : n ≤ 258 := by omega
    clear h hbb
    have fin : ∀ (wr : World), Below w.heap.size w wr → Hid True := fun _ _ => Lib.hid trivial
    clear fin
    go_enter func56, ntmps56
    rcases e4 with ⟨e4, -⟩ | ⟨e4, e5⟩
    all_goals
      go_wp2_with fail
      go_loopw [5] (fun s wr => ∃ i : Nat, i ≤ n ∧ s = .int .i64 i ∧ Hid (∀ j, j < i → ShH (p j)) ∧ Below w.heap.size w wr) (fun s _ => n - (numOf' s).toNat)
      case atStart => exact ⟨0, Nat.zero_le _, rfl, Lib.hid (fun j hj => absurd hj (Nat.not_lt_zero _)), Below.refl _ _⟩
      case round =>
        obtain ⟨i, hi, rfl, hE, hb⟩ := hrel
        by_cases hin : i < n
        · obtain ⟨b, off, c', ad', k', kc, e, -, hmv, rfl, c0, c1, c2, c3⟩ := (hm.below hb).at hin
          simp only [Value.slice.injEq, true_and] at e
          obtain ⟨rfl, rfl⟩ := e
          by_cases hq : ShH (p i)
          · have cS := short_yes (lx := (p i).lx) (isStr_bA (p i).a) (isStr_bA (p i).e) hmv hq
            have hE2 : Hid (∀ j, j < i + 1 → ShH (p j)) := Lib.hid fun j hj => by
              rcases Nat.lt_succ_iff_lt_or_eq.1 hj with q | rfl
              · exact hE.out j q
              · exact hq
            clear hE hm hmv hq
            go_wp2_with fail
            go_at_call 14
            refine cS.mono ?_
            rintro e w2 ⟨rfl, hk⟩
            have hb2 := hb.trans (hk.mono hb.size)
            clear cS c0 c1 c2 c3 hk
            go_wp2_with fail
            go_roundw
            case rel => exact ⟨i + 1, by omega, by go_num, hE2, hb2⟩
            case measure => simp [numOf'] <;> omega
          · have cS := short_no (lx := (p i).lx) (isStr_bA (p i).a) (isStr_bA (p i).e) hmv hq
            obtain rfl : bb = false := by
              cases bb with
              | false => rfl
              | true => exact absurd (HB.out.1 rfl i hin) hq
            clear hE hm hmv hq HB
            go_wp2_with fail
            go_at_call 14
            refine cS.mono ?_
            rintro e w2 ⟨rfl, hk⟩
            have hb2 := hb.trans (hk.mono hb.size)
            clear cS c0 c1 c2 c3 hk
            go_wp2_with fail
            go_ret
            exact ⟨rfl, hb2⟩
        · obtain rfl : i = n := by omega
          obtain rfl : bb = true := HB.out.2 hE.out
          clear hE hm HB
          go_wp2_with fail
          go_ret
          exact ⟨rfl, hb⟩
end
end Go.Proofs.Tryz

namespace Go.Proofs.Tryz
open Go Go.Am Go.RowKit Go.Dr
set_option maxRecDepth 100000

theorem OwnMoves.grown24 {w w' : World} {base base2 k : Nat} {v u : Value} {xs : List Value} {d : Nat → MvD} {n : Nat} (h : OwnMoves w base v d n) (hu : w.ownsRow base2 24 4 u k xs) (hg : w.grownBy w' u.ownBlock) : OwnMoves w' base v d n := by
  obtain ⟨vs, h1, h2, h3⟩ := h
  refine ⟨vs, h1.kept hg (kinds_ne h1 hu (by decide)), h2, fun j hj => ?_⟩
  obtain ⟨sv, bv, e0, e1, e2, e3, e4, hs, ho, h0⟩ := h3 j hj
  exact ⟨sv, bv, e0, e1, e2, e3, e4, hs, ho.kept hg (kinds_ne ho hu (by decide)), h0⟩
/-- The cells of a play. -/
structure P4 where
  s1 : ByteArray
  s2 : ByteArray
  x : Bool
  a : Option Addr
  k : Nat
  c : Nat
def P4.vals (m : P4) : List Value := [.string m.s1, .string m.s2, .bool m.x, .slice m.a m.k m.c]
def P4.arr (m : P4) : Array Value := #[.string m.s1, .string m.s2, .bool m.x, .slice m.a m.k m.c]
def flat4 (l : List P4) : List Value := l.flatMap P4.vals
theorem flat4_append (x y : List P4) : flat4 (x ++ y) = flat4 x ++ flat4 y := by simp [flat4]
theorem flat4_cons (m : P4) (l : List P4) : flat4 (m :: l) = .string m.s1 :: .string m.s2 :: .bool m.x :: .slice m.a m.k m.c :: flat4 l := rfl
theorem flat4_get : ∀ {l : List P4} {i : Nat} {m : P4}, l[i]? = some m → (flat4 l)[4 * i]? = some (.string m.s1) ∧ (flat4 l)[4 * i + 1]? = some (.string m.s2) ∧ (flat4 l)[4 * i + 2]? = some (.bool m.x) ∧ (flat4 l)[4 * i + 3]? = some (.slice m.a m.k m.c)
  | [], _, _, h => by simp at h
  | m :: l, 0, m', h => by
    simp only [List.getElem?_cons_zero, Option.some.injEq] at h
    subst h
    simp [flat4_cons]
  | m :: l, i + 1, m', h => by
    simp only [List.getElem?_cons_succ] at h
    have := flat4_get h
    simp only [flat4_cons, show 4 * (i + 1) = 4 * i + 4 by omega, show 4 * i + 4 + 1 = 4 * i + 1 + 4 by omega, show 4 * i + 4 + 2 = 4 * i + 2 + 4 by omega, show 4 * i + 4 + 3 = 4 * i + 3 + 4 by omega, List.getElem?_cons_succ]
    exact this
def PlOwn (w : World) (base : Nat) (c : P4) (p : PlH) : Prop := c.s1 = bA p.a ∧ c.s2 = bA p.e ∧ c.x = p.lx ∧ OwnMoves w base (.slice c.a c.k c.c) p.d p.n
theorem PlOwn.below {w W : World} {base : Nat} {c : P4} {p : PlH} (h : PlOwn w base c p) (hb : Below w.heap.size w W) : PlOwn W base c p := ⟨h.1, h.2.1, h.2.2.1, h.2.2.2.below hb⟩
/-- The plays built so far. -/
def LpR (w : World) (base : Nat) (l : List PlH) (v : Value) : Prop := ∃ lk : List P4, w.ownsRow base 24 4 v lk.length (flat4 lk) ∧ F2 (PlOwn w base) lk l
theorem LpR.start (w : World) (base : Nat) : LpR w base [] (.slice none 0 0) := ⟨[], World.ownsRow_nil _ _ _ _, .nil⟩
theorem LpR.below {w W : World} {base : Nat} {l : List PlH} {v : Value} (h : LpR w base l v) (hb : Below w.heap.size w W) : LpR W base l v :=
  let ⟨lk, h1, h2⟩ := h; ⟨lk, owns_below h1 hb, h2.imp fun _ _ o => o.below hb⟩
theorem LpR.slice {w : World} {base : Nat} {l : List PlH} {v : Value} (h : LpR w base l v) : ∃ a k c, v = .slice a k c := let ⟨_, h1, _⟩ := h; owns_slice h1
theorem LpR.lt {w : World} {base : Nat} {l : List PlH} {v : Value} (h : LpR w base l v) : ∀ q, v.ownBlock = some q → base ≤ q ∧ q < w.heap.size := let ⟨_, h1, _⟩ := h; h1.lt
/-- The play i of a list. -/
def pOf (l : List PlH) (i : Nat) : PlH := (l[i]?).getD ⟨[], [], false, fun _ => ⟨0, 0, 0, fun _ => 0, 0, 0, fun _ => 0, 0, 0⟩, 0⟩
theorem LpR.plays {w : World} {base : Nat} {l : List PlH} {v : Value} (h : LpR w base l v) : IsPlays w v (pOf l) l.length := by
  obtain ⟨lk, h1, h2⟩ := h
  have hl := h2.len
  rcases h1.2 with ⟨rfl, h0⟩ | ⟨g, cap, cur, rfl, -, -, hc, -⟩
  · have : l.length = 0 := by rw [← hl]; exact h0
    rw [this]
    exact ⟨none, 0, rfl, Nat.le_refl _, fun q => absurd rfl q⟩
  · rw [← hl]
    refine ⟨_, cap, rfl, hc, fun _ => ⟨g, 0, rfl, fun i hi => ?_⟩⟩
    obtain ⟨e0, e1, e2, e3⟩ := flat4_get (List.getElem?_eq_getElem hi)
    have hm := h2.get (List.getElem?_eq_getElem hi) (show l[i]? = some (pOf l i) by unfold pOf; rw [List.getElem?_eq_getElem (by omega)]; rfl)
    obtain ⟨m1, m2, m3, m4⟩ := hm
    rw [m1] at e0
    rw [m2] at e1
    rw [m3] at e2
    have c : ∀ k, k < 4 → w.cell? ⟨g, 4 * i + k, none⟩ = (flat4 lk)[4 * i + k]? := fun k hk => h1.cellAt _ (by omega)
    refine ⟨_, ?_, m4.is⟩
    simp only [cellsAt, PlH.cells, List.map_cons, List.map_nil, Nat.zero_add]
    rw [show (4 * i + 1 + 1 : Nat) = 4 * i + 2 from rfl, show (4 * i + 2 + 1 : Nat) = 4 * i + 3 from rfl, c 1 (by omega), c 2 (by omega), c 3 (by omega), e1, e2, e3]
    have := c 0 (by omega)
    rw [Nat.add_zero] at this
    rw [this, e0]
end Go.Proofs.Tryz

namespace Go.Proofs.Tryz
open Go Go.Am Go.RowKit Go.Dr
set_option maxRecDepth 100000

theorem info24p : (prog.info? 24).map (fun i => (i.zero, i.size, i.bytes)) = some (some (.agg #[.string ⟨#[]⟩, .string ⟨#[]⟩, .bool false, .slice none 0 0]), 4, 64) := by kernel_rfl
theorem PlOwn.grownP {w w' : World} {base base2 k : Nat} {c : P4} {p : PlH} {v : Value} {xs : List Value} (h : PlOwn w base c p) (hv : w.ownsRow base2 24 4 v k xs) (hg : w.grownBy w' v.ownBlock) : PlOwn w' base c p := ⟨h.1, h.2.1, h.2.2.1, h.2.2.2.grown24 hv hg⟩
/-- What the append of one play leaves. -/
structure AppP (w w' : World) (base : Nat) (l : List PlH) (c : P4) (v u : Value) : Prop where
  row : ∀ p, PlOwn w base c p → LpR w' base (l ++ [p]) u
  size : w.heap.size ≤ w'.heap.size
  old : ∀ q, q < base → q < w.heap.size → w'.heap[q]? = w.heap[q]?
  below : ∀ w0 : World, Below w0.heap.size w0 w → w0.heap.size ≤ base → Below w0.heap.size w0 w'
  grown : ∃ k xs, w.ownsRow base 24 4 v k xs ∧ w.grownBy w' v.ownBlock
theorem run_appendP (w : World) (base b : Nat) (ty : TypeId) (l : List PlH) (v : Value) (h : LpR w base l v) (hn : l.length ≤ 1000000) (c : P4) (hb : At w b c.arr 24) (k1 : Nat) (hbase : base ≤ w.heap.size) :
    ∃ a' k' c' w', (Builtin.append_ #[86, 86] ty #[v, .slice (some ⟨b, 0, none⟩) 1 k1]).run prog w = .ok (.slice a' k' c') w' ∧ AppP w w' base l c v (.slice a' k' c') := by
  obtain ⟨i24, hi, hz0, hz1, hz2⟩ := info_more info24p
  have zz : ((.agg #[.string ⟨#[]⟩, .string ⟨#[]⟩, .bool false, .slice none 0 0] : Value)).cells.size = 4 := rfl
  have hl := h.lt
  obtain ⟨lk, h1, h2⟩ := h
  have hlen := h2.len
  obtain ⟨v', w', hr, ho, hg, -⟩ := run_append_own (P := prog) w base 86 ty 24 i24 _ 4 64 u86 hi hz0 hz1 hz2 zz (by decide) v lk.length (flat4 lk) h1 ⟨b, 0, none⟩ 1 k1 c.vals rfl (fun j u hj => by
      rw [add_adr, Nat.zero_add]
      unfold At at hb
      unfold World.cell?
      rw [hb]
      simpa [P4.arr, P4.vals] using hj) (fun u hu => by
      simp only [P4.vals, List.mem_cons, List.not_mem_nil, or_false] at hu
      rcases hu with rfl | rfl | rfl | rfl <;> rfl) (by unfold maxLen; omega) (by omega) hbase
  obtain ⟨a9, k9, c9, rfl⟩ := owns_slice ho
  have hrow : ∀ p, PlOwn w base c p → LpR w' base (l ++ [p]) (.slice a9 k9 c9) := fun p hp => by
    refine ⟨lk ++ [c], ?_, (h2.imp fun _ _ o => o.grownP h1 hg).snocL (hp.grownP h1 hg)⟩
    have e : flat4 (lk ++ [c]) = flat4 lk ++ c.vals := by rw [flat4_append]; simp [flat4]
    rw [List.length_append, e]
    exact ho
  exact ⟨a9, k9, c9, w', hr, hrow, hg.size, fun q hq hq2 => hg.block q hq2 (fun e => by have := (hl _ e.symm).1; omega),
    fun w0 h0 hw0 => h0.grown hg h0.size (fun q hq => by have := (hl q hq).1; omega), ⟨_, _, h1, hg⟩⟩
theorem wpList_appendP (w : World) {ops : Array Oper} {rest : List Oper} {o : Oper} {a : Act} {Q : Exit → Act → World → Prop} (hgd : o.guard = none) (s x : Operand)
    (ho : o.op = .call { callee := .builtin .append, args := #[s, x], argTypes := #[86, 86] }) (base b : Nat) (L : List PlH) (v : Value) (hs : a.eval s = v) (k1 : Nat) (hx : a.eval x = .slice (some ⟨b, 0, none⟩) 1 k1)
    (h : LpR w base L v) (hn : L.length ≤ 1000000) (c : P4) (hb : At w b c.arr 24) (hbase : base ≤ w.heap.size)
    (hK : ∀ a' k' c' w', AppP w w' base L c v (.slice a' k' c') → wpList prog ops Q rest (a.put o.dst (.slice a' k' c')) w') : wpList prog ops Q (o :: rest) a w := by
  obtain ⟨a', k', c', w', hr, hA⟩ := run_appendP w base b o.type L v h hn c hb k1 hbase
  refine wpList_plain hgd fun K' hK' => ?_
  unfold Oper.wp execOp
  simp only [ho, resolve, invoke, builtin, Sem.run_bind, Sem.run_pure, Result.andThen_ok, List.map_toArray, List.map_cons, List.map_nil, hs, hx, hr]
  exact hK' _ _ (hK _ _ _ _ hA)
theorem wpListIn_appendP {F : Fence} {n : Nat} (w : World) {ops : Array Oper} {rest : List Oper} {o : Oper} {a : Act} {Q : Exit → Act → World → Prop} (hgd : o.guard = none) (s x : Operand)
    (ho : o.op = .call { callee := .builtin .append, args := #[s, x], argTypes := #[86, 86] }) (base b : Nat) (L : List PlH) (v : Value) (hs : a.eval s = v) (k1 : Nat) (hx : a.eval x = .slice (some ⟨b, 0, none⟩) 1 k1)
    (h : LpR w base L v) (hn : L.length ≤ 1000000) (c : P4) (hb : At w b c.arr 24) (hbase : base ≤ w.heap.size)
    (hK : ∀ a' k' c' w', AppP w w' base L c v (.slice a' k' c') → wpListIn F n prog ops Q rest (a.put o.dst (.slice a' k' c')) w') : wpListIn F n prog ops Q (o :: rest) a w := by
  obtain ⟨a', k', c', w', hr, hA⟩ := run_appendP w base b o.type L v h hn c hb k1 hbase
  refine wpListIn_plain hgd fun K' hK' => ?_
  unfold Oper.wpIn
  refine ⟨?_, ?_⟩
  · simp [Oper.about, ho, resolve, Target.leads, Sem.run_pure]
  · rw [Oper.semAt_plain F _ _ (by rw [ho]; intro c hc'; cases hc')]
    simp [execOp, ho, resolve, invoke, builtin, hs, hx, hr, Result.andThen]
    exact hK' _ _ (hK _ _ _ _ hA)
/-- One play laid into a row of its own. -/
theorem run_sliceP (w : World) (s1 s2 : ByteArray) (xb : Bool) (a : Option Addr) (k c : Nat) : (Instr.buildSlice 86 1 #[(0, .agg #[.string s1, .string s2, .bool xb, .slice a k c])]).run prog w = .ok (.slice (some ⟨w.heap.size, 0, none⟩) 1 1) (w.alloc (.cells #[.string s1, .string s2, .bool xb, .slice a k c] 24)) := by
  simp [go_sem]
theorem haltP {ops : Array Oper} {rest : List Oper} {d : Option Tmp} {t : TypeId} {p : String} {f : Array Edge} {g : Option (Nat × Bool)} {x : Operand} {a : Act} {w : World} {Q : Exit → Act → World → Prop} (h : Halt (wpList prog ops Q (⟨d, Op.buildSlice 86 1 #[(0, x)], t, p, f, g⟩ :: rest) a w)) : wpList prog ops Q (⟨d, Op.buildSlice 86 1 #[(0, x)], t, p, f, g⟩ :: rest) a w := h
theorem haltP_in {F : Fence} {n : Nat} {ops : Array Oper} {rest : List Oper} {d : Option Tmp} {t : TypeId} {p : String} {f : Array Edge} {g : Option (Nat × Bool)} {x : Operand} {a : Act} {w : World} {Q : Exit → Act → World → Prop} (h : Halt (wpListIn F n prog ops Q (⟨d, Op.buildSlice 86 1 #[(0, x)], t, p, f, g⟩ :: rest) a w)) : wpListIn F n prog ops Q (⟨d, Op.buildSlice 86 1 #[(0, x)], t, p, f, g⟩ :: rest) a w := h
theorem wpList_sliceP (w : World) {ops : Array Oper} {rest : List Oper} {o : Oper} {a : Act} {Q : Exit → Act → World → Prop} (hgd : o.guard = none) (x : Operand) (ho : o.op = .buildSlice 86 1 #[(0, x)]) (s1 s2 : ByteArray) (xb : Bool) (ad : Option Addr) (k c : Nat)
    (hx : a.eval x = .agg #[.string s1, .string s2, .bool xb, .slice ad k c])
    (h : wpList prog ops Q rest (a.put o.dst (.slice (some ⟨w.heap.size, 0, none⟩) 1 1)) (w.alloc (.cells #[.string s1, .string s2, .bool xb, .slice ad k c] 24))) : wpList prog ops Q (o :: rest) a w := by
  refine wpList_plain hgd fun K' hK' => ?_
  unfold Oper.wp execOp
  simp only [ho, List.map_toArray, List.map_cons, List.map_nil, hx, Sem.run_bind, run_sliceP, Result.andThen_ok, Sem.run_pure]
  exact hK' _ _ h
theorem wpListIn_sliceP {F : Fence} {n : Nat} (w : World) {ops : Array Oper} {rest : List Oper} {o : Oper} {a : Act} {Q : Exit → Act → World → Prop} (hgd : o.guard = none) (x : Operand) (ho : o.op = .buildSlice 86 1 #[(0, x)]) (s1 s2 : ByteArray) (xb : Bool) (ad : Option Addr) (k c : Nat)
    (hx : a.eval x = .agg #[.string s1, .string s2, .bool xb, .slice ad k c])
    (h : wpListIn F n prog ops Q rest (a.put o.dst (.slice (some ⟨w.heap.size, 0, none⟩) 1 1)) (w.alloc (.cells #[.string s1, .string s2, .bool xb, .slice ad k c] 24))) : wpListIn F n prog ops Q (o :: rest) a w := by
  refine wpListIn_plain hgd fun K' hK' => ?_
  unfold Oper.wpIn
  refine ⟨?_, ?_⟩
  · simp [Oper.about, ho]
  · rw [Oper.semAt_plain F _ _ (by rw [ho]; intro c hc'; cases hc')]
    simp only [execOp, ho, List.map_toArray, List.map_cons, List.map_nil, hx, Sem.run_bind, run_sliceP, Result.andThen_ok, Sem.run_pure]
    exact hK' _ _ h
end Go.Proofs.Tryz

namespace Go.Proofs.Tryz
open Go Go.Am Go.RowKit Go.Dr
set_option maxRecDepth 100000

theorem IsPlays.congr {w : World} {v : Value} {p q : Nat → PlH} {n : Nat} (h : IsPlays w v p n) (he : ∀ i, i < n → p i = q i) : IsPlays w v q n := by
  obtain ⟨a, c, e, h1, h2⟩ := h
  refine ⟨a, c, e, h1, fun h0 => ?_⟩
  obtain ⟨b, off, e2, h3⟩ := h2 h0
  exact ⟨b, off, e2, fun i hi => by rw [← he i hi]; exact h3 i hi⟩
theorem pOf_range (p : Nat → PlH) (n : Nat) : ∀ i, i < n → pOf ((List.range n).map p) i = p i := fun i hi => by
  unfold pOf
  simp [hi]
section
variable {w : World} {p : Nat → PlH} {n : Nat} {v : Value}
set_option maxHeartbeats 3200000 in
theorem copyPlays_w (hm : IsPlays w v p n) (hn : n ≤ 1000) (hs : ∀ i, i < n → (p i).n ≤ 6 ∧ ∀ j, j < (p i).n → ((p i).d j).bn ≤ 40) :
    Calls prog 59 #[v] w fun e w' => (∃ u, e = .returned u ∧ LpR w' w.heap.size ((List.range n).map p) u) ∧ Below w.heap.size w w' := by
  have hm0 := hm
  obtain ⟨ad, c, rfl, hnc, -⟩ := hm0
  have h0 : LpR w w.heap.size ((List.range 0).map p) (.slice none 0 0) := LpR.start _ _
  go_enter func59, ntmps59
  go_wp2_with fail
  go_loopw [3, 4] (fun t s wr => ∃ i : Nat, i ≤ n ∧ s = .int .i64 i ∧ LpR wr w.heap.size ((List.range i).map p) t ∧ Below w.heap.size w wr) (fun _ s _ => n - (numOf' s).toNat)
  case atStart => exact ⟨0, Nat.zero_le _, rfl, h0, Below.refl _ _⟩
  case round =>
    clear h0
    obtain ⟨i, hi, rfl, hl, hb⟩ := hrel
    by_cases hin : i < n
    · obtain ⟨b, off, c', ad', k, kc, e, -, hmv, rfl, c0, c1, c2, c3⟩ := (hm.below hb).at hin
      simp only [Value.slice.injEq, true_and] at e
      obtain ⟨rfl, rfl⟩ := e
      have cC := copyPlay_w (s1 := bA (p i).a) (s2 := bA (p i).e) (lx := (p i).lx) hmv (hs i hin).1 (hs i hin).2
      obtain ⟨av, kv, cv, rfl⟩ := hl.slice
      have hlen : ((List.range i).map p).length ≤ 1000000 := by simp; omega
      have hsz := hb.size
      have HN : Hid ((List.range (i + 1)).map p = (List.range i).map p ++ [p i]) := Lib.hid (by rw [List.range_succ, List.map_append]; rfl)
      have HM := Lib.hid hm
      have HS := Lib.hid hs
      clear hmv hm hs
      go_wp2_with fail
      go_at_call 73
      refine cC.mono ?_
      rintro e w2 ⟨u, rfl, hu, hk⟩
      obtain ⟨a5, k5, c5, rfl⟩ := hu.slice
      have hal := (Below.refl w2.heap.size w2).alloc (Nat.le_refl _) (.cells #[.string (bA (p i).a), .string (bA (p i).e), .bool (p i).lx, .slice a5 k5 c5] 24)
      have hb2 := hb.trans (hk.mono hb.size)
      have hlA := (hl.below hk).below hal
      have hPl : PlOwn (w2.alloc (.cells #[.string (bA (p i).a), .string (bA (p i).e), .bool (p i).lx, .slice a5 k5 c5] 24)) w.heap.size ⟨bA (p i).a, bA (p i).e, (p i).lx, a5, k5, c5⟩ (p i) := ⟨rfl, rfl, rfl, (hu.mono hsz).below hal⟩
      have hs2 := hk.size
      clear cC hl hb hk c0 c1 c2 c3 hu
      go_wp2_with (first
        | (with_reducible refine haltP ?_)
        | fail)
      unfold Halt
      refine wpList_sliceP _ rfl _ rfl (bA (p i).a) (bA (p i).e) (p i).lx a5 k5 c5 rfl ?_
      refine wpList_appendP _ rfl _ _ rfl w.heap.size w2.heap.size ((List.range i).map p) _ rfl 1 rfl hlA hlen ⟨bA (p i).a, bA (p i).e, (p i).lx, a5, k5, c5⟩ (at_new _ _ _) ?c2 ?_
      case c2 => simp; omega
      intro a9 k9 c9 w9 hA
      have hl9 := hA.row _ hPl
      rw [← HN.out] at hl9
      have hb9 := hA.below w (hb2.alloc hb2.size _) (Nat.le_refl _)
      clear hA hPl hlA hal hb2 HN
      go_wp2_with fail
      go_roundw
      case rel => exact ⟨i + 1, by omega, by go_num, hl9, hb9⟩
      case measure => simp [numOf'] <;> omega
    · obtain rfl : i = n := by omega
      clear hm hs
      go_wp2_with fail
      go_ret
      exact ⟨⟨_, rfl, hl⟩, hb⟩
end
end Go.Proofs.Tryz

namespace Go.Proofs.Tryz
open Go Go.Am Go.RowKit Go.Dr
set_option maxRecDepth 100000

theorem spl_le (c : UInt8) (l : List UInt8) : ∀ x ∈ spl c l, x.length ≤ l.length := fun x hx => by
  obtain ⟨a, r, e, h⟩ := spl_join c l
  rw [e] at hx
  rw [h, List.length_append]
  rcases List.mem_cons.1 hx with rfl | hx
  · omega
  · obtain ⟨r1, r2, rfl⟩ := List.append_of_mem hx
    simp
    omega
/-- The play of a line. -/
def plR (x : List UInt8) : PlH := ⟨(parL x).p.s1.data.toList, (parL x).p.s2.data.toList, (parL x).p.lx, dOf (parL x).p.L, (parL x).p.L.length⟩
/-- What ParseAll answers of the lines from the line i on. -/
def pAll : Nat → List (List UInt8) → List PlH → List PlH × Nat × Int
  | _, [], out => (out, 0, 0)
  | i, [x], out => if x = [] then (out, 0, 0) else ([], i, 25)
  | i, x :: y :: r, out => if 256 ≤ i then ([], i, 5) else if (parL x).e = 0 then pAll (i + 1) (y :: r) (out ++ [plR x]) else ([], i, (parL x).e)
/-- What ParseAll answers of a text. -/
def parAll (l : List UInt8) : List PlH × Nat × Int := pAll 0 (spl 10 l) []
/-- .. as it lies. -/
def AllAns (w' : World) (e : Ending) (R : List PlH × Nat × Int) : Prop := ∃ v, e = .returned (.tuple #[v, .int .i64 (R.2.1 : Int), .int .i64 R.2.2]) ∧ IsPlays w' v (pOf R.1) R.1.length
theorem noPlays (w : World) : IsPlays w (.slice none 0 0) (pOf []) 0 := ⟨none, 0, rfl, Nat.le_refl _, fun q => absurd rfl q⟩

set_option maxHeartbeats 6400000 in
theorem parseAllR_w (l : List UInt8) (hl : l.length ≤ 4096) (w : World) (hL : Laid w) :
    Calls prog 62 #[.string (bA l)] w fun e w' => AllAns w' e (parAll l) ∧ Below w.heap.size w w' := by
  have hs : (bA l).size = l.length := bA_size l
  have hk : ¬ (1000000 < (l.length : Int)) := by omega
  have cS : Calls prog 57 #[.string (bA l), .int .u8 10] w fun e w' => ∃ v, e = .returned v ∧ w'.ownsRow w.heap.size 9 1 v (spl 10 l).length ((spl 10 l).map strV) ∧ Below w.heap.size w w' := splitR_w l 10 (by omega) _
  have HR0 : Hid (parAll l = pAll 0 (spl 10 l) []) := Lib.hid rfl
  go_enter func62, ntmps62
  go_wp2_with fail
  go_at_call 57
  refine cS.mono ?_
  rintro e w1 ⟨sv, rfl, hrow, hk1⟩
  obtain ⟨K, hK⟩ : ∃ K, (spl 10 l).length = K := ⟨_, rfl⟩
  have hK1 : 0 < K := by rw [← hK]; exact List.length_pos_iff.2 (spl_ne 10 l)
  have hK2 : K ≤ 4097 := by
    have := spl_length 10 l
    have := List.count_le_length (a := (10 : UInt8)) (l := l)
    omega
  have hlt1 := hrow.lt
  rw [hK] at hrow
  obtain ⟨g, cK, rfl⟩ : ∃ g c, sv = .slice (some ⟨g, 0, none⟩) K c := by
    rcases hrow.2 with ⟨rfl, h0⟩ | ⟨g, cap, cur, e, _⟩
    · omega
    · exact ⟨g, cap, e⟩
  have hg := hlt1 g rfl
  have hsp : ∀ x ∈ spl 10 l, x.length ≤ 4096 := fun x hx => Nat.le_trans (spl_le 10 l x hx) hl
  have HK := Lib.hid hK
  have HSP := Lib.hid hsp
  have h0 : LpR w1 w1.heap.size [] (.slice none 0 0) := LpR.start _ _
  have hne : spl 10 l ≠ [] := spl_ne 10 l
  have HNE := Lib.hid hne
  clear hlt1 cS hK hsp hne
  go_wp2_with fail
  go_loopw [5, 7] (fun s5 s7 wr => ∃ (r z : List (List UInt8)) (out : List PlH), spl 10 l = r ++ z ∧ z ≠ [] ∧ s7 = .int .i64 ((r.length : Nat) : Int) ∧ LpR wr w1.heap.size out s5 ∧ out.length ≤ r.length ∧ parAll l = pAll r.length z out ∧ wr.ownsRow w.heap.size 9 1 (.slice (some ⟨g, 0, none⟩) K cK) K ((spl 10 l).map strV) ∧ Below w.heap.size w wr ∧ w1.heap.size ≤ wr.heap.size) (fun _ s7 _ => K - (numOf' s7).toNat)
  case atStart => exact ⟨[], _, [], rfl, HNE.out, rfl, h0, Nat.le_refl _, HR0.out, hrow, hk1, Nat.le_refl _⟩
  case round =>
    have hk1' := hk1.size
    clear h0 hrow hk1 HR0 HNE
    obtain ⟨r, z, out, hspl, hz, rfl, hlp, hout, hR, hrw, hBW, hsz⟩ := hrel
    have hrK : r.length + z.length = K := by rw [← HK.out, hspl, List.length_append]
    obtain ⟨av, kv, cv, rfl⟩ := hlp.slice
    cases z with
    | nil => exact absurd rfl hz
    | cons x z =>
      have hxl : x.length ≤ 4096 := HSP.out x (by rw [hspl]; simp)
      have hcell : wr.cell? ⟨g, r.length, none⟩ = some (.string (bA x)) := by
        have := hrw.cells (g := g) rfl r.length (strV x) (by rw [hspl]; simp)
        rwa [add_adr, Nat.zero_add] at this
      obtain ⟨N, hN⟩ : ∃ N, r.length = N := ⟨_, rfl⟩
      cases z with
      | nil =>
        have hNK : N + 1 = K := by rw [← hrK, ← hN]; simp
        have HR : Hid (parAll l = if x = [] then (out, 0, 0) else ([], N, 25)) := Lib.hid (by rw [hR, hN]; rfl)
        rw [hN] at hcell ⊢
        clear hspl hR hrK hN hz HSP HK hrw hout
        have hNi : (N : Int) < (K : Int) := by omega
        have e1 : ((N : Int) == (K : Int) - 1) = true := by rw [beq_iff_eq]; omega
        have e2 : (N : Int) + 1 = (K : Int) := by omega
        have HE2 := Lib.hid e2
        have hN0 : (0 : Int) ≤ (N : Int) := by omega
        have hNK' : N < K := by omega
        clear e2 hNK
        by_cases hx : x = []
        · have HR2 : Hid (parAll l = (out, 0, 0)) := Lib.hid (by rw [HR.out, if_pos hx])
          have eb : bA x = ({ data := #[] } : ByteArray) := by rw [hx]; rfl
          rw [eb] at hcell
          clear HR hx eb
          go_wp2_with fail
          go_ret3
          unfold AllAns
          rw [HR2.out]
          exact ⟨⟨_, rfl, hlp.plays⟩, hBW⟩
        · have HR2 : Hid (parAll l = ([], N, 25)) := Lib.hid (by rw [HR.out, if_neg hx])
          have r1 : ((bA x).toList == []) = false := by rw [bA_list, beq_eq_false_iff_ne]; exact hx
          have r2 : (bA x).toList ≠ [] := by rw [bA_list]; exact hx
          clear HR hx
          go_wp2_with fail
          go_ret3
          unfold AllAns
          rw [HR2.out]
          exact ⟨⟨_, rfl, noPlays _⟩, hBW⟩
      | cons y z =>
        have hNK : N + 2 ≤ K := by rw [← hrK, ← hN]; simp
        have HR : Hid (parAll l = if 256 ≤ N then ([], N, 5) else if (parL x).e = 0 then pAll (N + 1) (y :: z) (out ++ [plR x]) else ([], N, (parL x).e)) := Lib.hid (by rw [hR, hN, pAll])
        have HS : Hid (∃ r', spl 10 l = r' ++ (y :: z) ∧ r'.length = N + 1) := Lib.hid ⟨r ++ [x], by rw [hspl]; simp, by rw [List.length_append, hN]; rfl⟩
        rw [hN] at hcell hout ⊢
        clear hspl hR hrK hN hz HSP HK
        have hNi : (N : Int) < (K : Int) := by omega
        have e1 : ((N : Int) == (K : Int) - 1) = false := by rw [beq_eq_false_iff_ne]; omega
        have hN0 : (0 : Int) ≤ (N : Int) := by omega
        have hNK' : N < K := by omega
        by_cases h256 : 256 ≤ N
        · have HR2 : Hid (parAll l = ([], N, 5)) := Lib.hid (by rw [HR.out, if_pos h256])
          have h2 : (256 : Int) ≤ (N : Int) := by omega
          clear HR HS h256 hrw hout hlp
          go_wp2_with fail
          go_ret3
          unfold AllAns
          rw [HR2.out]
          exact ⟨⟨_, rfl, noPlays _⟩, hBW⟩
        · obtain ⟨⟨⟨q1, q2, qx, L⟩, Kx, E⟩, hRx⟩ : ∃ R, parL x = R := ⟨_, rfl⟩
          have h2 : ¬ (256 : Int) ≤ (N : Int) := by omega
          have HR2 : Hid (parAll l = if E = 0 then pAll (N + 1) (y :: z) (out ++ [plR x]) else ([], N, E)) := Lib.hid (by rw [HR.out, if_neg h256, hRx])
          have HPl : Hid (plR x = ⟨q1.data.toList, q2.data.toList, qx, dOf L, L.length⟩) := Lib.hid (by unfold plR; rw [hRx])
          have cP : Calls prog 23 #[.string (bA x)] wr fun e w' => (∃ a k c, e = .returned (.tuple #[.agg #[.string q1, .string q2, .bool qx, .slice a k c], .int .i64 (Kx : Int), .int .i64 E]) ∧ OwnMoves w' wr.heap.size (.slice a k c) (dOf L) L.length) ∧ Below wr.heap.size wr w' := by
            refine (parseR_own x hxl wr (hL.below hBW)).mono ?_
            rintro e w' ⟨⟨mv, rfl, hm⟩, hB⟩
            rw [hRx] at hm
            obtain ⟨a, k, c, rfl⟩ := hm.slice
            rw [hRx]
            exact ⟨⟨a, k, c, rfl, hm⟩, hB⟩
          clear HR h256 hRx
          go_wp2_with fail
          go_at_call 23
          refine cP.mono ?_
          rintro e w2 ⟨⟨a5, k5, c5, rfl, hown⟩, hk⟩
          have hal := (Below.refl w2.heap.size w2).alloc (Nat.le_refl _) (.cells #[.string q1, .string q2, .bool qx, .slice a5 k5 c5] 24)
          have hal2 := (Below.refl (w2.alloc (.cells #[.string q1, .string q2, .bool qx, .slice a5 k5 c5] 24)).heap.size _).alloc (Nat.le_refl _) (.cells #[.string q1, .string q2, .bool qx, .slice a5 k5 c5] 24)
          have hk2 := hk.trans (hal.mono hk.size)
          have hb2 := hBW.trans (hk2.mono hBW.size)
          have hlp2 := (hlp.below hk2).below hal2
          have hrw2 := owns_below hrw hk2
          have hs2 := Nat.le_trans hsz hk2.size
          have hx2 := at_new w2 #[.string q1, .string q2, .bool qx, .slice a5 k5 c5] 24
          have hown2 := ((hown.mono hsz).below hal).below hal2
          clear cP hcell hlp hrw hk hk2 hal hBW hown
          by_cases hE : E = 0
          · have HR3 : Hid (parAll l = pAll (N + 1) (y :: z) (out ++ [plR x])) := Lib.hid (by rw [HR2.out, if_pos hE])
            subst hE
            have hlen : out.length ≤ 1000000 := by omega
            have hPl : PlOwn _ w1.heap.size ⟨q1, q2, qx, a5, k5, c5⟩ (plR x) := ⟨by rw [HPl.out]; exact (bA_data q1).symm, by rw [HPl.out]; exact (bA_data q2).symm, by rw [HPl.out], by rw [HPl.out]; exact hown2⟩
            obtain ⟨⟨x0, x1, x2, x3⟩, -⟩ := box4 hx2
            clear HR2 hown2
            go_wp2_with (first
              | (with_reducible refine haltP ?_)
              | fail)
            unfold Halt
            refine wpList_sliceP _ rfl _ rfl q1 q2 qx a5 k5 c5 rfl ?_
            refine wpList_appendP _ rfl _ _ rfl w1.heap.size (w2.alloc (.cells #[.string q1, .string q2, .bool qx, .slice a5 k5 c5] 24)).heap.size out _ rfl 1 rfl hlp2 hlen ⟨q1, q2, qx, a5, k5, c5⟩ (at_new _ _ _) ?c2 ?_
            case c2 => have := hal2.size; omega
            intro a9 k9 c9 w9 hA
            have hl9 := hA.row _ hPl
            have hb9 := hA.below w (hb2.trans (hal2.mono hb2.size)) hk1'
            have hs9 := Nat.le_trans hs2 (Nat.le_trans hal2.size hA.size)
            have hrw9 : w9.ownsRow w.heap.size 9 1 (.slice (some ⟨g, 0, none⟩) K cK) K ((spl 10 l).map strV) := by
              have h3 := owns_below hrw2 hal2
              rcases h3.2 with ⟨q, _⟩ | ⟨g', cap, cur, q, h4, h5, h6⟩
              · cases q
              · cases q
                exact ⟨h3.1, .inr ⟨_, _, cur, rfl, h4, (hA.old _ hg.2 (Array.getElem?_eq_some_iff.1 h5).1).trans h5, h6⟩⟩
            clear hA hPl hlp2 hal2 hb2 hrw2 hs2 hx2 x0 x1 x2 x3 HPl
            go_wp2_with fail
            go_roundw
            case rel =>
              obtain ⟨r', h3, h4⟩ := HS.out
              exact ⟨r', y :: z, out ++ [plR x], h3, by simp, by rw [h4]; go_num, hl9, by rw [List.length_append, h4]; simp; omega, by rw [HR3.out, h4], hrw9, hb9, hs9⟩
            case measure => simp [numOf'] <;> omega
          · have HR3 : Hid (parAll l = ([], N, E)) := Lib.hid (by rw [HR2.out, if_neg hE])
            have hE' : (E != 0) = true := by simpa using hE
            clear HR2 HS hlp2 hrw2 hown2 hal2 hout
            go_wp2_with fail
            go_ret3
            unfold AllAns
            rw [HR3.out]
            exact ⟨⟨_, rfl, noPlays _⟩, hb2⟩
end Go.Proofs.Tryz

namespace Go.Proofs.Tryz
open Go Go.Am Go.RowKit Go.Dr
set_option maxRecDepth 100000

/-! ### plain -/
/-- The line i. -/
def stepL (i : Nat) (x : List UInt8) : Int ⊕ PlH :=
  if Lib.hasSuffix x [10] = false then .inl 25 else if 256 ≤ i then .inl 5 else if (parL (Lib.trimSuffix x [10])).e = 0 then .inr (plR (Lib.trimSuffix x [10])) else .inl (parL (Lib.trimSuffix x [10])).e
def accL : Nat → List PlH → List (List UInt8) → Option (List PlH)
  | _, out, [] => some out
  | i, out, x :: r => match stepL i x with
    | .inl _ => none
    | .inr p => accL (i + 1) (out ++ [p]) r
def runL : Nat → List PlH → List (List UInt8) → List PlH × Nat × Int
  | _, out, [] => (out, 0, 0)
  | i, out, x :: r => match stepL i x with
    | .inl e => ([], i, e)
    | .inr p => runL (i + 1) (out ++ [p]) r
theorem has_no {x : List UInt8} (h : (10 : UInt8) ∉ x) : Lib.hasSuffix x [10] = false := by
  unfold Lib.hasSuffix
  rw [← Bool.not_eq_true, List.isSuffixOf_iff_suffix]
  rintro ⟨t, rfl⟩
  exact h (by simp)
theorem has_yes (x : List UInt8) : Lib.hasSuffix (x ++ [10]) [10] = true := by
  unfold Lib.hasSuffix
  rw [List.isSuffixOf_iff_suffix]
  exact ⟨x, rfl⟩
theorem trim_yes (x : List UInt8) : Lib.trimSuffix (x ++ [10]) [10] = x := by
  unfold Lib.trimSuffix
  rw [has_yes, if_pos rfl]
  simp
theorem trim_len (x : List UInt8) : (Lib.trimSuffix x [10]).length ≤ x.length := by
  unfold Lib.trimSuffix
  split
  · rw [List.length_take]; omega
  · exact Nat.le_refl _
theorem runL_pAll : ∀ (z : List (List UInt8)) (i : Nat) (out : List PlH), z ≠ [] → (∀ x ∈ z, (10 : UInt8) ∉ x) → runL i out (lns z) = pAll i z out
  | [], _, _, h, _ => absurd rfl h
  | [x], i, out, _, h => by
    rw [lns, pAll]
    by_cases hx : x = []
    · rw [if_pos hx, if_pos hx]; rfl
    · rw [if_neg hx, if_neg hx, runL]
      have hs : stepL i x = .inl 25 := by unfold stepL; rw [if_pos (has_no (h x (by simp)))]
      rw [hs]
  | x :: y :: r, i, out, _, h => by
    rw [lns, pAll, runL]
    unfold stepL
    rw [has_yes, trim_yes, if_neg (by decide)]
    by_cases h1 : 256 ≤ i
    · rw [if_pos h1, if_pos h1]
    · rw [if_neg h1, if_neg h1]
      by_cases h2 : (parL x).e = 0
      · rw [if_pos h2, if_pos h2]
        exact runL_pAll (y :: r) (i + 1) _ (by simp) fun a ha => h a (by simp [ha])
      · rw [if_neg h2, if_neg h2]
theorem parAll_run (l : List UInt8) : parAll l = runL 0 [] (lns (spl 10 l)) := (runL_pAll _ 0 [] (spl_ne 10 l) fun _ hx => spl_nosep hx).symm
theorem accL_snoc (x : List UInt8) : ∀ (r : List (List UInt8)) (i : Nat) (out : List PlH), accL i out (r ++ [x]) = (accL i out r).bind fun o => match stepL (i + r.length) x with
    | .inl _ => none
    | .inr p => some (o ++ [p])
  | [], i, out => by
    show (match stepL i x with | .inl _ => none | .inr p => accL (i + 1) (out ++ [p]) []) = _
    rw [show i + ([] : List (List UInt8)).length = i from rfl]
    cases hs : stepL i x with
    | inl e => simp [accL]
    | inr p => simp [accL]
  | y :: r, i, out => by
    rw [List.cons_append, accL, accL]
    cases stepL i y with
    | inl e => rfl
    | inr p =>
      show accL (i + 1) (out ++ [p]) (r ++ [x]) = (accL (i + 1) (out ++ [p]) r).bind _
      rw [accL_snoc x r (i + 1), List.length_cons, show i + 1 + r.length = i + (r.length + 1) by omega]
theorem runL_stop {x : List UInt8} {z : List (List UInt8)} {e : Int} : ∀ {r : List (List UInt8)} {i : Nat} {out o : List PlH}, accL i out r = some o → stepL (i + r.length) x = .inl e → runL i out (r ++ x :: z) = ([], i + r.length, e)
  | [], i, out, o, h, hs => by
    show (match stepL i x with | .inl e => _ | .inr p => _) = _
    rw [show stepL i x = .inl e from hs]
    rfl
  | y :: r, i, out, o, h, hs => by
    rw [accL] at h
    rw [List.cons_append, runL]
    cases hy : stepL i y with
    | inl e' => rw [hy] at h; cases h
    | inr p =>
      rw [hy] at h
      show runL (i + 1) (out ++ [p]) (r ++ x :: z) = _
      rw [runL_stop h (by rw [List.length_cons] at hs; rw [show i + 1 + r.length = i + (r.length + 1) by omega]; exact hs), List.length_cons, show i + 1 + r.length = i + (r.length + 1) by omega]
theorem runL_done : ∀ {r : List (List UInt8)} {i : Nat} {out o : List PlH}, accL i out r = some o → runL i out r = (o, 0, 0)
  | [], i, out, o, h => by cases h; rfl
  | y :: r, i, out, o, h => by
    rw [accL] at h
    rw [runL]
    cases hy : stepL i y with
    | inl e' => rw [hy] at h; cases h
    | inr p => rw [hy] at h; exact runL_done h
theorem accL_len : ∀ {r : List (List UInt8)} {i : Nat} {out o : List PlH}, accL i out r = some o → o.length = out.length + r.length
  | [], i, out, o, h => by cases h; rfl
  | y :: r, i, out, o, h => by
    rw [accL] at h
    cases hy : stepL i y with
    | inl e' => rw [hy] at h; cases h
    | inr p => rw [hy] at h; have := accL_len h; rw [List.length_append] at this; simp at this ⊢; omega
theorem stepL_lt {i : Nat} {x : List UInt8} {p : PlH} (h : stepL i x = .inr p) : i < 256 := by
  unfold stepL at h
  split at h
  · cases h
  · split at h
    · cases h
    · omega
theorem accL_le : ∀ {r : List (List UInt8)} {i : Nat} {out o : List PlH}, accL i out r = some o → r.length = 0 ∨ i + r.length ≤ 256
  | [], i, out, o, h => .inl rfl
  | y :: r, i, out, o, h => by
    rw [accL] at h
    cases hy : stepL i y with
    | inl e' => rw [hy] at h; cases h
    | inr p =>
      rw [hy] at h
      have h1 := stepL_lt hy
      right
      rcases accL_le h with h2 | h2
      · rw [List.length_cons]; omega
      · rw [List.length_cons]; omega
theorem lns_flat : ∀ (n : Nat) (l : List UInt8), l.length ≤ n → (lns (spl 10 l)).flatten = l
  | 0, l, h => by
    have : l = [] := List.length_eq_zero_iff.1 (by omega)
    subst this; rfl
  | n + 1, l, h => by
    by_cases hm : (10 : UInt8) ∈ l
    · obtain ⟨x, r, rfl, hx⟩ := break_at hm
      rw [lns_cons hx, List.flatten_cons, lns_flat n r (by rw [List.length_append, List.length_cons] at h; omega)]
      simp
    · by_cases h0 : l = []
      · subst h0; rfl
      · rw [lns_last hm h0]; simp
theorem lns_le {l x : List UInt8} (h : x ∈ lns (spl 10 l)) : x.length ≤ l.length := by
  have e := lns_flat l.length l (Nat.le_refl _)
  obtain ⟨a, b, hab⟩ := List.append_of_mem h
  rw [hab] at e
  have := congrArg List.length e
  simp only [List.flatten_append, List.flatten_cons, List.length_append] at this
  omega
/-- The lines that have come. -/
def lnW (pre : List (List UInt8)) : List (List UInt8) := pre.map fun x => x.take 4096
theorem lnW_small {l : List UInt8} (hl : l.length ≤ 4096) {pre : List (List UInt8)} (h : ∀ x ∈ pre, x ∈ lns (spl 10 l)) : lnW pre = pre := by
  unfold lnW
  have : ∀ x ∈ pre, (fun x : List UInt8 => x.take 4096) x = id x := fun x hx => List.take_of_length_le (Nat.le_trans (lns_le (h x hx)) hl)
  rw [List.map_congr_left this, List.map_id]
theorem lnW_snoc (pre : List (List UInt8)) (x : List UInt8) : lnW (pre ++ [x]) = lnW pre ++ [x.take 4096] := by simp [lnW]
theorem lnW_len (pre : List (List UInt8)) : (lnW pre).length = pre.length := by simp [lnW]
theorem parAll_done {l : List UInt8} (hl : l.length ≤ 4096) {xs : List (List UInt8)} (h : xs = lns (spl 10 l)) {out : List PlH} (ha : accL 0 [] (lnW xs) = some out) : parAll l = (out, 0, 0) := by
  rw [lnW_small hl (fun x hx => by rw [← h]; exact hx)] at ha
  rw [parAll_run, ← h, runL_done ha]
theorem parAll_stop {l : List UInt8} (hl : l.length ≤ 4096) {pre : List (List UInt8)} {x : List UInt8} (h : pre ++ [x] <+: lns (spl 10 l)) {out : List PlH} {e : Int} (ha : accL 0 [] (lnW pre) = some out) (hs : stepL pre.length (x.take 4096) = .inl e) : parAll l = ([], pre.length, e) := by
  obtain ⟨t, ht⟩ := h
  rw [lnW_small hl (fun y hy => by rw [← ht]; simp [hy])] at ha
  have hx : x.take 4096 = x := List.take_of_length_le (Nat.le_trans (lns_le (l := l) (by rw [← ht]; simp)) hl)
  rw [hx] at hs
  rw [parAll_run, ← ht, List.append_assoc, List.singleton_append, runL_stop (r := pre) ha (by rw [Nat.zero_add]; exact hs), Nat.zero_add]

/-! ### lists of plays -/
theorem OwnMoves.abide {A B : World} {row : Option Nat} {base : Nat} {v : Value} {d : Nat → MvD} {n : Nat} (h : OwnMoves A base v d n) (hg : A.grownBy B row) (hr : ∀ r, row = some r → ∃ o : Obj, A.heap[r]? = some o ∧ o.isCells = false) : OwnMoves B base v d n := by
  obtain ⟨vs, h1, h2, h3⟩ := h
  refine ⟨vs, owns_abide h1 hg hr, h2, fun j hj => ?_⟩
  obtain ⟨sv, bv, e0, e1, e2, e3, e4, hs, ho, h0⟩ := h3 j hj
  exact ⟨sv, bv, e0, e1, e2, e3, e4, hs, owns_abide ho hg hr, h0⟩
theorem LpR.abide {A B : World} {row : Option Nat} {base : Nat} {L : List PlH} {v : Value} (h : LpR A base L v) (hg : A.grownBy B row) (hr : ∀ r, row = some r → ∃ o : Obj, A.heap[r]? = some o ∧ o.isCells = false) : LpR B base L v :=
  let ⟨lk, h1, h2⟩ := h
  ⟨lk, owns_abide h1 hg hr, h2.imp fun _ _ o => ⟨o.1, o.2.1, o.2.2.1, o.2.2.2.abide hg hr⟩⟩
theorem LpR.set {w : World} {base : Nat} {l : List PlH} {v : Value} (h : LpR w base l v) {b : Nat} (hb : b < base) (o : Nat) (u : Value) : LpR (w.setCell ⟨b, o, none⟩ u) base l v :=
  let ⟨lk, h1, h2⟩ := h
  ⟨lk, ownsRow_setCell_below h1 (by exact hb) u, h2.imp fun _ _ o' => ⟨o'.1, o'.2.1, o'.2.2.1, o'.2.2.2.setCell (by exact hb) u⟩⟩
theorem LpR.count {w : World} {base k c : Nat} {l : List PlH} {a : Option Addr} (h : LpR w base l (.slice a k c)) : k = l.length := by
  obtain ⟨a', c', e, -⟩ := h.plays
  simp only [Value.slice.injEq] at e
  exact e.2.1
theorem LpR.putD {w : World} {base D : Nat} {L : List PlH} {v : Value} (h : LpR w base L v) (hD : w.heap[D]? = some (.deferred (some []))) : LpR (w.putObj D (.deferred none)) base L v :=
  h.abide (B := w.putObj D (.deferred none)) (row := some D) ⟨rfl, rfl, rfl, by simp, fun k _ hne => World.putObj_heap_other (fun e => hne (by rw [e]))⟩ (fun r hr => by
    obtain rfl := Option.some.inj hr
    exact ⟨_, hD, rfl⟩)
theorem keeps_grown24 {W W' : World} {base k : Nat} {v : Value} {xs : List Value} (hg : W.grownBy W' v.ownBlock) (ho : W.ownsRow base 24 4 v k xs) : KeepsOthers W W' :=
  KeepsOthers.of_grownBy hg fun _ _ hj hk => by
    obtain ⟨cs', fz, hc⟩ := Lib.ownsRow_kind ho _ hj
    rw [hc] at hk
    cases hk
    rfl
/-! ### what ParseAll's variables hold -/
/-- .. between two lines. -/
def AllI (w : World) (h1 h2 bo base : Nat) (pre : List (List UInt8)) (W : World) : Prop :=
  (∃ out a k c, accL 0 [] (lnW pre) = some out ∧ At W bo #[.slice a k c] 86 ∧ LpR W base out (.slice a k c) ∧ At W w.heap.size #[.slice none 0 0] 86 ∧ At W h1 #[.int .i64 0] 3 ∧ At W h2 #[.int .i64 0] 30 ∧ base ≤ W.heap.size) ∧ Below w.heap.size w W
/-- .. where a line is wrong. -/
def AllX (w : World) (h1 h2 : Nat) (c : Code) (pre : List (List UInt8)) (W : World) : Prop :=
  (c = .ret ∧ ∃ pre0 x out e, pre = pre0 ++ [x] ∧ accL 0 [] (lnW pre0) = some out ∧ stepL pre0.length (x.take 4096) = .inl e ∧
    At W w.heap.size #[.slice none 0 0] 86 ∧ At W h1 #[.int .i64 ((pre0.length : Nat) : Int)] 3 ∧ At W h2 #[.int .i64 e] 30) ∧ Below w.heap.size w W
theorem allI_own (w : World) (h1 h2 bo base B : Nat) (hB : w.heap.size ≤ B) : OwnFrom B (AllI w h1 h2 bo base) :=
  OwnFrom.and (Own.from (fun s A B row hs hg hr => by
    obtain ⟨out, a, k, c, q1, q2, q3, q4, q5, q6, q7⟩ := hs
    exact ⟨out, a, k, c, q1, q2.abide hg hr, q3.abide hg hr, q4.abide hg hr, q5.abide hg hr, q6.abide hg hr, Nat.le_trans q7 hg.size⟩) _) (ownFrom_below (Nat.le_refl _) hB)
theorem allX_own (w : World) (h1 h2 B : Nat) (hB : w.heap.size ≤ B) (c : Code) : OwnFrom B (AllX w h1 h2 c) :=
  OwnFrom.and (Own.from (fun s A B row hs hg hr => by
    obtain ⟨q0, pre0, x, out, e, q1, q2, q3, q4, q5, q6⟩ := hs
    exact ⟨q0, pre0, x, out, e, q1, q2, q3, q4.abide hg hr, q5.abide hg hr, q6.abide hg hr⟩) _) (ownFrom_below (Nat.le_refl _) hB)
theorem allI_box {w : World} {h1 h2 bo base B : Nat} (hb : B < base) (n0 : B ≠ w.heap.size) (n1 : B ≠ h1) (n2 : B ≠ h2) (n3 : B ≠ bo) (n4 : w.heap.size ≤ B) (s : List (List UInt8)) (X : World) (v : Value) (h : AllI w h1 h2 bo base s X) : AllI w h1 h2 bo base s (X.setCell ⟨B, 0, none⟩ v) := by
  obtain ⟨⟨out, a, k, c, q1, q2, q3, q4, q5, q6, q7⟩, hB⟩ := h
  exact ⟨⟨out, a, k, c, q1, q2.setCell (by simpa using n3.symm) _, q3.set hb _ _, q4.setCell (by simpa using n0.symm) _, q5.setCell (by simpa using n1.symm) _, q6.setCell (by simpa using n2.symm) _, by simpa using q7⟩, hB.setCell (p := ⟨B, 0, none⟩) n4 _⟩
theorem results_cells3 {fn : Func} {p1 p2 p3 : Tmp} {t1 t2 t3 : TypeId} (h : fn.results = #[.cell p1 t1, .cell p2 t2, .cell p3 t3]) (tmps : Array Value) (P : Program) (w : World) :
    (results fn tmps).run P w =
      ((asAddr (tmps.getD p1 undef)).run P w).andThen fun a1 w₁ => ((loadVar t1 a1).run P w₁).andThen fun v1 w₂ => ((asAddr (tmps.getD p2 undef)).run P w₂).andThen fun a2 w₃ => ((loadVar t2 a2).run P w₃).andThen fun v2 w₄ => ((asAddr (tmps.getD p3 undef)).run P w₄).andThen fun a3 w₅ => ((loadVar t3 a3).run P w₅).andThen fun v3 w₆ => .ok (.tuple #[v1, v2, v3]) w₆ := by
  simp only [results, h]
  simp [Sem.run_bind, Result.andThen]
theorem res_all {tmps : Array Value} {W : World} {b1 b2 b3 : Nat} {a : Option Addr} {k c : Nat} {x y : Int} (f : Func) (hf : f.results = #[.cell 2 86, .cell 3 3, .cell 4 30]) (p1 : tmps.getD 2 undef = .pointer (some ⟨b1, 0, none⟩)) (p2 : tmps.getD 3 undef = .pointer (some ⟨b2, 0, none⟩)) (p3 : tmps.getD 4 undef = .pointer (some ⟨b3, 0, none⟩))
    (h1 : At W b1 #[.slice a k c] 86) (h2 : At W b2 #[.int .i64 x] 3) (h3 : At W b3 #[.int .i64 y] 30) : (results f tmps).run prog W = .ok (.tuple #[.slice a k c, .int .i64 x, .int .i64 y]) W := by
  obtain ⟨y1, -⟩ := box1 h1
  obtain ⟨y2, -⟩ := box1 h2
  obtain ⟨y3, -⟩ := box1 h3
  rw [results_cells3 hf, p1, p2, p3]
  simp [go_sem, y1, y2, y3]
end Go.Proofs.Tryz
