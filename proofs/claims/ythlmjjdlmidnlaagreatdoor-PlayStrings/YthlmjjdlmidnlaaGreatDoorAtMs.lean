/- Parse of the reference: by the kit's walk. -/
import Derived.Test.YthlmjjdlmidnlaaGreatDoorAtJs
import Derived.Test.YthlmjjdlmidnlaaGreatDoorAsAks
namespace Go.Proofs.Tryz
open Go Go.Am Go.RowKit Go.Dr
set_option maxRecDepth 100000

theorem owns_old {w w' : World} {base b2 g k c n : Nat} {e : TypeId} {xs : List Value} {L : List MvD} {cc : M5} {v u : Value} (h : w.ownsRow base e 1 (.slice (some ⟨g, 0, none⟩) k c) n xs) (hg : g < b2) (hA : AppM w w' b2 L cc v u) : w'.ownsRow base e 1 (.slice (some ⟨g, 0, none⟩) k c) n xs := by
  rcases h.2 with ⟨q, h0⟩ | ⟨g', cap, cur, q, h1, h2, h3⟩
  · cases q
  · cases q
    exact ⟨h.1, .inr ⟨_, _, cur, rfl, h1, (hA.old _ hg (Array.getElem?_eq_some_iff.1 h2).1).trans h2, h3⟩⟩
/-- What Parse hands back. -/
def ParAns (w' : World) (e : Ending) (l : List UInt8) : Prop :=
  ∃ mv, e = .returned (.tuple #[.agg #[.string (parL l).p.s1, .string (parL l).p.s2, .bool (parL l).p.lx, mv], .int .i64 ((parL l).k : Int), .int .i64 (parL l).e]) ∧ IsMoves w' mv (dOf (parL l).p.L) (parL l).p.L.length
theorem chkR_p {w : World} {y0 y1 : Int → Int} {yo yn eo en : Int} {d : Nat → MvD} {n : Nat} {pvv ev mv : Value} (b : Bool) (h : Laid w) (hp : IsStr pvv y0 yo yn) (he : IsStr ev y1 eo en) (hm : IsMoves w mv d n) :
    Calls prog 17 #[.agg #[pvv, ev, .bool b, mv]] w fun e w' => e = .returned (.int .i64 (plV y0 yo yn y1 eo en d n)) ∧ Below w.heap.size w w' := by
  cases b
  · exact chkR_w (lx := 0) h hp he hm
  · exact chkR_w (lx := 1) h hp he hm
theorem results_cell3p {fn : Func} {p u t : Tmp} {ty : TypeId} (h : fn.results = #[.cell p ty, .tmp u, .tmp t]) (tmps : Array Value) (P : Program) (w : World) :
    (results fn tmps).run P w =
      ((asAddr (tmps.getD p undef)).run P w).andThen fun a w₁ => ((loadVar ty a).run P w₁).andThen fun v w₂ => .ok (.tuple #[v, tmps.getD u undef, tmps.getD t undef]) w₂ := by
  simp only [results, h]
  simp [Sem.run_bind, Result.andThen]
/-- A play and two numbers, as Parse hands them back. -/
theorem res_play3 {tmps : Array Value} {W : World} {b : Nat} {c0 c1 c2 c3 : Value} (f : Func) (hf : f.results = #[.cell 2 24, .tmp 3, .tmp 4]) (hp : tmps.getD 2 undef = .pointer (some ⟨b, 0, none⟩)) (hz : At W b #[c0, c1, c2, c3] 24) {k e : Value} (hk : tmps.getD 3 undef = k) (he : tmps.getD 4 undef = e) :
    (results f tmps).run prog W = .ok (.tuple #[.agg #[c0, c1, c2, c3], k, e]) W := by
  obtain ⟨⟨y0, y1, y2, y3⟩, -⟩ := box4 hz
  rw [results_cell3p hf, hp, hk, he]
  simp [go_sem, y0, y1, y2, y3]
theorem no_int4 {W : World} {g : Nat} {z0 z1 : ByteArray} {z2 : Bool} {a : Option Addr} {k c : Nat} {e : TypeId} (hz : At W g #[.string z0, .string z1, .bool z2, .slice a k c] e) : ∀ j z, W.cell? ⟨g, j, none⟩ ≠ some (.int .i64 z) := fun j z q => by
  unfold At at hz
  match j with
  | 0 => simp [World.cell?, hz] at q
  | 1 => simp [World.cell?, hz] at q
  | 2 => simp [World.cell?, hz] at q
  | 3 => simp [World.cell?, hz] at q
  | j + 4 => simp [World.cell?, hz] at q
theorem arP_def (l : List UInt8) (h : l ≠ [45]) : arP l = decide (l ≠ [] ∧ l.all pitB = true) := by
  unfold arP
  have e : (l == [45]) = false := by rw [beq_eq_false_iff_ne]; exact h
  rw [e]
  by_cases h0 : l = []
  · subst h0; rfl
  · have e0 : l.isEmpty = false := by cases l with | nil => exact absurd rfl h0 | cons a r => rfl
    rw [e0]
    cases hb : l.all pitB with
    | true => rw [decide_eq_true ⟨h0, rfl⟩]; rfl
    | false => rw [decide_eq_false (fun q => by cases q.2)]; rfl
theorem isEv_def (l : List UInt8) (h : l ≠ []) : isEv l = decide (l.length = 1 ∧ l.all evB = true) := by
  unfold isEv
  have e0 : l.isEmpty = false := by cases l with | nil => exact absurd rfl h | cons a r => rfl
  rw [e0]
  cases hb : l.all evB with
  | true =>
    by_cases h1 : l.length = 1
    · rw [decide_eq_true ⟨h1, rfl⟩, h1]; rfl
    · rw [decide_eq_false (fun q => h1 q.1)]
      have : (l.length == 1) = false := by rw [beq_eq_false_iff_ne]; exact h1
      rw [this]; rfl
  | false => rw [decide_eq_false (fun q => by cases q.2)]; simp

/-- What the reference's Parse has read. -/
def PrI (w w2 : World) (l : List UInt8) (B6 g base K cK : Nat) (r _z : List (List UInt8)) (P : PSt) (v : Value) (W : World) : Prop :=
  accW 0 p0St r = some P ∧ At W B6 #[.string (bA P.a), .string (bA P.e), .bool P.lx, v] 24 ∧ LsR W w2.heap.size P.L v ∧ P.L.length ≤ r.length ∧ At W w.heap.size #[.string ⟨#[]⟩, .string ⟨#[]⟩, .bool false, .slice none 0 0] 24 ∧
    W.ownsRow base 9 1 (.slice (some ⟨g, 0, none⟩) K cK) K ((spl 32 l).map strV) ∧ Below w.heap.size w W ∧ w2.heap.size ≤ W.heap.size

set_option maxHeartbeats 12800000 in
theorem parseR_go (l : List UInt8) (hl : l.length ≤ 4096) (w : World) (hL : Laid w) :
    Calls prog 23 #[.string (bA l)] w fun e w' => ParAns w' e l ∧ Below w.heap.size w w' := by
  have hs : (bA l).size = l.length := bA_size l
  have hk : ¬ (4096 < (l.length : Int)) := by omega
  have hB0 : Below w.heap.size w (w.alloc (.cells #[.string ⟨#[]⟩, .string ⟨#[]⟩, .bool false, .slice none 0 0] 24)) := (Below.refl _ _).alloc (Nat.le_refl _) _
  have hz0 := at_new w #[.string ⟨#[]⟩, .string ⟨#[]⟩, .bool false, .slice none 0 0] 24
  have cS : Calls prog 57 #[.string (bA l), .int .u8 32] (w.alloc (.cells #[.string ⟨#[]⟩, .string ⟨#[]⟩, .bool false, .slice none 0 0] 24)) fun e w' => ∃ v, e = .returned v ∧ w'.ownsRow (w.alloc (.cells #[.string ⟨#[]⟩, .string ⟨#[]⟩, .bool false, .slice none 0 0] 24)).heap.size 9 1 v (spl 32 l).length ((spl 32 l).map strV) ∧ Below (w.alloc (.cells #[.string ⟨#[]⟩, .string ⟨#[]⟩, .bool false, .slice none 0 0] 24)).heap.size (w.alloc (.cells #[.string ⟨#[]⟩, .string ⟨#[]⟩, .bool false, .slice none 0 0] 24)) w' := splitR_w l 32 (by omega) _
  go_enter func23, ntmps23
  go_wp2_with fail
  go_at_call 57
  refine cS.mono ?_
  rintro e w1 ⟨sv, rfl, hrow, hk1⟩
  have hz1 := (hz0.below hk1 hz0.lt).alloc (.cells #[.string ⟨#[]⟩, .string ⟨#[]⟩, .bool false, .slice none 0 0] 24)
  have hB1 := hB0.trans (hk1.mono hB0.size)
  have hB2 := hB1.alloc hB1.size (.cells #[.string ⟨#[]⟩, .string ⟨#[]⟩, .bool false, .slice none 0 0] 24)
  have hp2 := at_new w1 #[.string ⟨#[]⟩, .string ⟨#[]⟩, .bool false, .slice none 0 0] 24
  have hrow2 := hrow.alloc (.cells #[.string ⟨#[]⟩, .string ⟨#[]⟩, .bool false, .slice none 0 0] 24)
  have hs1 := hk1.size
  have hs0 : (w.alloc (.cells #[.string ⟨#[]⟩, .string ⟨#[]⟩, .bool false, .slice none 0 0] 24)).heap.size = w.heap.size + 1 := by simp
  have hs2 : (w1.alloc (.cells #[.string ⟨#[]⟩, .string ⟨#[]⟩, .bool false, .slice none 0 0] 24)).heap.size = w1.heap.size + 1 := by simp
  have hlt1 := hrow.lt
  obtain ⟨base, hbase⟩ : ∃ B, (w.alloc (.cells #[.string ⟨#[]⟩, .string ⟨#[]⟩, .bool false, .slice none 0 0] 24)).heap.size = B := ⟨_, rfl⟩
  rw [hbase] at hrow2 hlt1 hs0 hs1
  obtain ⟨K, hK⟩ : ∃ K, (spl 32 l).length = K := ⟨_, rfl⟩
  have hK1 : 0 < K := by rw [← hK]; exact List.length_pos_iff.2 (spl_ne 32 l)
  have hK2 : K ≤ 4097 := by
    have := spl_length 32 l
    have := List.count_le_length (a := (32 : UInt8)) (l := l)
    omega
  rw [hK] at hrow2
  obtain ⟨g, cK, rfl⟩ : ∃ g c, sv = .slice (some ⟨g, 0, none⟩) K c := by
    rcases hrow2.2 with ⟨rfl, h0⟩ | ⟨g, cap, cur, e, _⟩
    · omega
    · exact ⟨g, cap, e⟩
  have hg : base ≤ g ∧ g < w1.heap.size := hlt1 g rfl
  obtain ⟨B6, hB6⟩ : ∃ B, w1.heap.size = B := ⟨_, rfl⟩
  rw [hB6] at hp2 hs2 hg
  clear hrow hlt1 hz0 hB0 hB1 cS hk1
  go_wp2_with fail
  obtain ⟨w2, hw2⟩ : ∃ W : World, w1.alloc (.cells #[.string ⟨#[]⟩, .string ⟨#[]⟩, .bool false, .slice none 0 0] 24) = W := ⟨_, rfl⟩
  (try rw [hB6])
  rw [hw2]
  rw [hw2] at hz1 hB2 hp2 hrow2 hs2
  have HNE : Hid (B6 ≠ w.heap.size ∧ g ≠ w.heap.size ∧ g ≠ B6 ∧ w.heap.size < B6 ∧ B6 < w2.heap.size ∧ g < w2.heap.size) := Lib.hid (by omega)
  have h0 : PrI w w2 l B6 g base K cK [] (spl 32 l) p0St (.slice none 0 0) w2 := ⟨rfl, hp2, LsR.start _ _, Nat.le_refl _, hz1, hrow2, hB2, Nat.le_refl _⟩
  clear hbase hs0 hs1 hs2 hg hB6 hw2 hp2 hz1 hB2 hrow2
  go_loopw [7, 8] (fun s7 s8 wr => ∃ (r z : List (List UInt8)) (P : PSt) (v : Value), spl 32 l = r ++ z ∧ s7 = .int .i64 ((atW r : Nat) : Int) ∧ s8 = .int .i64 ((r.length : Nat) : Int) ∧ PrI w w2 l B6 g base K cK r z P v wr) (fun _ s8 _ => K - (numOf' s8).toNat)
  case atStart => exact ⟨[], _, _, _, rfl, rfl, rfl, h0⟩
  case round =>
    clear h0
    obtain ⟨r, z, P, v, hspl, rfl, rfl, hacc, hpp, hlr, hPl, hzz, hrw, hBW, hsz⟩ := hrel
    obtain ⟨⟨p0, p1, p2, p3⟩, gp0, gp1, gp2, gp3⟩ := box4 hpp
    obtain ⟨⟨z0, z1, z2, z3⟩, gz0, gz1, gz2, gz3⟩ := box4 hzz
    have hrK : r.length + z.length = K := by rw [← hK, hspl, List.length_append]
    cases z with
    | nil =>
      have hz0 : r.length = K := by rw [← hrK]; simp
      have HA : Hid (accW 0 p0St (spl 32 l) = some P) := Lib.hid (by rw [hspl, List.append_nil]; exact hacc)
      rw [hz0]
      have HKl := Lib.hid hK
      clear hspl hacc hrK hK
      by_cases h2 : K < 2
      · have HR : Hid (parL l = ⟨zeroP, l.length, 25⟩) := Lib.hid (parL_few (by omega) HA.out (by rw [HKl.out]; exact h2))
        have h2' : (K : Int) < 2 := by omega
        clear hk HA
        go_wp2_with fail
        have hz4 := hzz.set4 (.string ⟨#[]⟩) (.string ⟨#[]⟩) (.bool false) (.slice none 0 0)
        refine bodyPost_ret (res_play3 f23 rfl rfl hz4 rfl rfl) rfl ?_
        unfold ParAns
        rw [HR.out]
        exact ⟨⟨_, rfl, zero_is _⟩, below_set4 hBW (Nat.le_refl _) _ _ _ _⟩
      · have h2' : ¬ (K : Int) < 2 := by omega
        have hmv := hlr.row
        obtain ⟨av, kv, cv, rfl⟩ := hlr.slice
        obtain rfl := hlr.count
        have cC := chkR_p P.lx (hL.below hBW) (isStr_bA P.a) (isStr_bA P.e) hmv
        obtain ⟨k, hkk⟩ : ∃ k, plP P = k := ⟨_, rfl⟩
        have cC : Calls prog 17 #[.agg #[.string (bA P.a), .string (bA P.e), .bool P.lx, .slice av P.L.length cv]] wr fun e w' => e = .returned (.int .i64 k) ∧ Below wr.heap.size wr w' := by rw [← hkk]; exact cC
        clear hrw hlr
        go_wp2_with fail
        go_at_call 17
        refine cC.mono ?_
        rintro e w5 ⟨rfl, hk5⟩
        clear cC
        have hpp := hpp.below hk5 hpp.lt
        have hzz := hzz.below hk5 hzz.lt
        have hBW := hBW.trans (hk5.mono hBW.size)
        have hmv := hmv.below hk5
        clear hk5 p0 p1 p2 p3 gp0 gp1 gp2 gp3 z0 z1 z2 z3 gz0 gz1 gz2 gz3
        obtain ⟨⟨p0, p1, p2, p3⟩, gp0, gp1, gp2, gp3⟩ := box4 hpp
        obtain ⟨⟨z0, z1, z2, z3⟩, gz0, gz1, gz2, gz3⟩ := box4 hzz
        by_cases hk0 : k = 0
        · subst hk0
          have HR : Hid (parL l = ⟨pldOf P, 0, 0⟩) := Lib.hid (parL_ok (by omega) HA.out (by rw [HKl.out]; exact h2) hkk)
          clear hkk HA hk
          go_wp2_with fail
          have hz4 := hzz.set4 (.string (bA P.a)) (.string (bA P.e)) (.bool P.lx) (.slice av P.L.length cv)
          refine bodyPost_ret (res_play3 f23 rfl rfl hz4 rfl rfl) rfl ?_
          unfold ParAns
          rw [HR.out]
          exact ⟨⟨_, rfl, hmv.but (g := w.heap.size) (fun q hq => (Below.heap_setCell _ _ _ _ hq).trans ((Below.heap_setCell _ _ _ _ hq).trans ((Below.heap_setCell _ _ _ _ hq).trans (Below.heap_setCell _ _ _ _ hq)))) (no_int4 hzz)⟩, below_set4 hBW (Nat.le_refl _) _ _ _ _⟩
        · have HR : Hid (parL l = ⟨zeroP, l.length, k⟩) := Lib.hid (by rw [← hkk]; exact parL_chk (by omega) HA.out (by rw [HKl.out]; exact h2) (by rw [hkk]; exact hk0))
          have hk0' : (k != 0) = true := by simpa using hk0
          clear hkk HA hk
          go_wp2_with fail
          have hz4 := hzz.set4 (.string ⟨#[]⟩) (.string ⟨#[]⟩) (.bool false) (.slice none 0 0)
          refine bodyPost_ret (res_play3 f23 rfl rfl hz4 rfl rfl) rfl ?_
          unfold ParAns
          rw [HR.out]
          exact ⟨⟨_, rfl, zero_is _⟩, below_set4 hBW (Nat.le_refl _) _ _ _ _⟩
    | cons x z =>
      have hat : atW r + x.length ≤ 4097 := by
        have := atW_spl l
        rw [hspl, atW_append, atW] at this
        omega
      have hwl : x.length ≤ 4096 := by
        have := atW_spl l
        rw [hspl, atW_append, atW] at this
        omega
      have hsx : (bA x).size = x.length := bA_size x
      have hcell : wr.cell? ⟨g, r.length, none⟩ = some (.string (bA x)) := by
        have := hrw.cells (g := g) rfl r.length (strV x) (by rw [hspl]; simp)
        rwa [add_adr, Nat.zero_add] at this
      have HI : Hid (∀ (P' : PSt) (v' : Value) (W' : World), stepW r.length x P = some P' → At W' B6 #[.string (bA P'.a), .string (bA P'.e), .bool P'.lx, v'] 24 → LsR W' w2.heap.size P'.L v' → P'.L.length ≤ r.length + 1 → At W' w.heap.size #[.string ⟨#[]⟩, .string ⟨#[]⟩, .bool false, .slice none 0 0] 24 →
          W'.ownsRow base 9 1 (.slice (some ⟨g, 0, none⟩) K cK) K ((spl 32 l).map strV) → Below w.heap.size w W' → w2.heap.size ≤ W'.heap.size →
          ∃ (r' z' : List (List UInt8)) (P'' : PSt) (v'' : Value), spl 32 l = r' ++ z' ∧ (.int .i64 ((atW r : Int) + (x.length : Int) + 1) : Value) = .int .i64 ((atW r' : Nat) : Int) ∧ (.int .i64 ((r.length : Int) + 1) : Value) = .int .i64 ((r'.length : Nat) : Int) ∧ PrI w w2 l B6 g base K cK r' z' P'' v'' W') := Lib.hid fun P' v' W' h1 h2 h3 h4 h5 h6 h7 h8 => by
        refine ⟨r ++ [x], z, P', v', by rw [hspl]; simp, ?_, ?_, ?_, h2, h3, by rw [List.length_append]; exact h4, h5, h6, h7, h8⟩
        · rw [atW_snoc]; congr 1
        · rw [List.length_append]; rfl
        · rw [accW_snoc, hacc, Nat.zero_add]; exact h1
      have HX : Hid (stepW r.length x P = none → parL l = ⟨zeroP, atW r, 25⟩) := Lib.hid fun h => parL_stop (by omega) hspl hacc h
      obtain ⟨A, hA⟩ : ∃ A, atW r = A := ⟨_, rfl⟩
      obtain ⟨N, hN⟩ : ∃ N, r.length = N := ⟨_, rfl⟩
      rw [hN] at hcell HI HX hrK hPl ⊢
      rw [hA] at hat HI HX ⊢
      have hNK : (N : Int) < (K : Int) := by rw [List.length_cons] at hrK; omega
      have hN0 : (0 : Int) ≤ (N : Int) := by omega
      have hNn : N < K := by omega
      clear hspl hacc hrK hN hA hk hK1
      match N with
      | 0 =>
        have e0 : (((0 : Nat) : Int)) = 0 := rfl
        rw [e0] at HI hNK hN0 ⊢
        have cA := arePitches_w x (by omega) wr (hL.below hBW)
        by_cases hd : x = [45]
        · have HS : Hid (stepW 0 x P = some P) := Lib.hid (by unfold stepW; rw [if_pos rfl, if_pos hd])
          have ea : arP x = true := by rw [hd]; rfl
          have eb : bA x = ({ data := #[45] } : ByteArray) := by rw [hd]; rfl
          rw [ea] at cA
          rw [eb] at cA hcell hsx
          have hxl : x.length = 1 := by rw [hd]; rfl
          rw [hxl] at HI hsx hat
          clear hd ea eb hxl HX
          go_wp2_with fail
          go_at_call 88
          refine cA.mono ?_
          rintro e w5 ⟨rfl, hk5⟩
          clear hcell cA
          have hpp := hpp.below hk5 hpp.lt
          have hzz := hzz.below hk5 hzz.lt
          have hlr := hlr.below hk5
          have hrw := owns_below hrw hk5
          have hBW := hBW.trans (hk5.mono hBW.size)
          have hszO := hsz
          have hsz := Nat.le_trans hsz hk5.size
          clear p0 p1 p2 p3 gp0 gp1 gp2 gp3 z0 z1 z2 z3 gz0 gz1 gz2 gz3
          obtain ⟨⟨p0, p1, p2, p3⟩, gp0, gp1, gp2, gp3⟩ := box4 hpp
          obtain ⟨⟨z0, z1, z2, z3⟩, gz0, gz1, gz2, gz3⟩ := box4 hzz
          go_wp2_with fail
          go_roundw
          case rel => exact HI.out P _ _ HS.out hpp hlr (by omega) hzz hrw hBW hsz
          case measure => simp [numOf'] <;> omega
        · have q1 : ((bA x).toList == [45]) = false := by rw [bA_list, beq_eq_false_iff_ne]; exact hd
          have q2 : (bA x).toList ≠ [45] := by rw [bA_list]; exact hd
          have HS : Hid (stepW 0 x P = if arP x = true then some { P with a := x } else none) := Lib.hid (by
            unfold stepW
            rw [if_pos rfl, if_neg hd, arP_def x hd]
            simp)
          clear hd
          go_wp2_with fail
          go_at_call 88
          refine cA.mono ?_
          rintro e w5 ⟨rfl, hk5⟩
          clear hcell cA
          have hpp := hpp.below hk5 hpp.lt
          have hzz := hzz.below hk5 hzz.lt
          have hlr := hlr.below hk5
          have hrw := owns_below hrw hk5
          have hBW := hBW.trans (hk5.mono hBW.size)
          have hszO := hsz
          have hsz := Nat.le_trans hsz hk5.size
          clear p0 p1 p2 p3 gp0 gp1 gp2 gp3 z0 z1 z2 z3 gz0 gz1 gz2 gz3
          obtain ⟨⟨p0, p1, p2, p3⟩, gp0, gp1, gp2, gp3⟩ := box4 hpp
          obtain ⟨⟨z0, z1, z2, z3⟩, gz0, gz1, gz2, gz3⟩ := box4 hzz
          cases hA : arP x with
          | true =>
            have HS2 : Hid (stepW 0 x P = some { P with a := x }) := Lib.hid (by rw [HS.out, if_pos hA])
            clear HS hA HX
            go_wp2_with fail
            have hpp := hpp.set 0 (.string (bA x))
            simp only [List.setIfInBounds_toArray, List.set_cons_zero] at hpp
            have hzz := hzz.setCell (a := ⟨B6, 0, none⟩) (by have := HNE.out; simp; omega) (.string (bA x))
            have hrw := ownsRow_setCell_other (a := ⟨B6, 0, none⟩) hrw (by have := HNE.out; simp [Value.ownBlock]; omega) (.string (bA x))
            have hBW := hBW.setCell (p := ⟨B6, 0, none⟩) (by have := HNE.out; simp; omega) (.string (bA x))
            have hlr := hlr.set (b := B6) HNE.out.2.2.2.2.1 0 (.string (bA x))
            have hsz : w2.heap.size ≤ (w5.setCell ⟨B6, 0, none⟩ (.string (bA x))).heap.size := by rw [size_set]; exact hsz
            go_roundw
            case rel => exact HI.out { P with a := x } _ _ HS2.out hpp hlr (by show P.L.length ≤ _; omega) hzz hrw hBW hsz
            case measure => simp [numOf'] <;> omega
          | false =>
            have HS2 : Hid (stepW 0 x P = none) := Lib.hid (by rw [HS.out, hA]; rfl)
            clear HS hA HI
            have hpp := hpp.set 0 (.string (bA x))
            simp only [List.setIfInBounds_toArray, List.set_cons_zero] at hpp
            have hzz := hzz.setCell (a := ⟨B6, 0, none⟩) (by have := HNE.out; simp; omega) (.string (bA x))
            have hrw := ownsRow_setCell_other (a := ⟨B6, 0, none⟩) hrw (by have := HNE.out; simp [Value.ownBlock]; omega) (.string (bA x))
            have hBW := hBW.setCell (p := ⟨B6, 0, none⟩) (by have := HNE.out; simp; omega) (.string (bA x))
            have hlr := hlr.set (b := B6) HNE.out.2.2.2.2.1 0 (.string (bA x))
            have hsz : w2.heap.size ≤ (w5.setCell ⟨B6, 0, none⟩ (.string (bA x))).heap.size := by rw [size_set]; exact hsz
            have HR := Lib.hid (HX.out HS2.out)
            obtain ⟨⟨y0, y1, y2, y3⟩, gy0, gy1, gy2, gy3⟩ := box4 hzz
            go_wp2_with fail
            have hz4 := hzz.set4 (.string ⟨#[]⟩) (.string ⟨#[]⟩) (.bool false) (.slice none 0 0)
            refine bodyPost_ret (res_play3 f23 rfl rfl hz4 rfl rfl) rfl ?_
            unfold ParAns
            rw [HR.out]
            exact ⟨⟨_, rfl, zero_is _⟩, below_set4 hBW (Nat.le_refl _) _ _ _ _⟩
      | 1 =>
        have e0 : (((1 : Nat) : Int)) = 1 := rfl
        rw [e0] at HI hNK hN0 ⊢
        by_cases hd : x = [45]
        · have HS : Hid (stepW 1 x P = some P) := Lib.hid (by unfold stepW; rw [if_neg (by decide), if_pos rfl, if_pos hd])
          have eb : bA x = ({ data := #[45] } : ByteArray) := by rw [hd]; rfl
          rw [eb] at hcell hsx
          have hxl : x.length = 1 := by rw [hd]; rfl
          rw [hxl] at HI hsx hat
          clear hd eb hxl HX
          go_wp2_with fail
          go_roundw
          case rel => exact HI.out P _ _ HS.out hpp hlr (by omega) hzz hrw hBW hsz
          case measure => simp [numOf'] <;> omega
        · have q1 : ((bA x).toList == [45]) = false := by rw [bA_list, beq_eq_false_iff_ne]; exact hd
          have q2 : (bA x).toList ≠ [45] := by rw [bA_list]; exact hd
          by_cases hx0 : x = []
          · have HS2 : Hid (stepW 1 x P = none) := Lib.hid (by
              unfold stepW
              rw [if_neg (by decide), if_pos rfl, if_neg hd, if_neg (fun q => by rw [hx0] at q; exact absurd q.1 (by decide))])
            have eb : bA x = ({ data := #[] } : ByteArray) := by rw [hx0]; rfl
            rw [eb] at hcell q1 q2
            clear hd hx0 eb HI hsx
            have hpp := hpp.set 1 (.string ⟨#[]⟩)
            simp only [List.setIfInBounds_toArray, List.set_cons_zero, List.set_cons_succ] at hpp
            have hzz := hzz.setCell (a := ⟨B6, 1, none⟩) (by have := HNE.out; simp; omega) (.string ⟨#[]⟩)
            have hrw := ownsRow_setCell_other (a := ⟨B6, 1, none⟩) hrw (by have := HNE.out; simp [Value.ownBlock]; omega) (.string ⟨#[]⟩)
            have hBW := hBW.setCell (p := ⟨B6, 1, none⟩) (by have := HNE.out; simp; omega) (.string ⟨#[]⟩)
            have hlr := hlr.set (b := B6) HNE.out.2.2.2.2.1 1 (.string ⟨#[]⟩)
            have hsz : w2.heap.size ≤ (wr.setCell ⟨B6, 1, none⟩ (.string ⟨#[]⟩)).heap.size := by rw [size_set]; exact hsz
            have HR := Lib.hid (HX.out HS2.out)
            obtain ⟨⟨y0, y1, y2, y3⟩, gy0, gy1, gy2, gy3⟩ := box4 hzz
            go_wp2_with fail
            have hz4 := hzz.set4 (.string ⟨#[]⟩) (.string ⟨#[]⟩) (.bool false) (.slice none 0 0)
            refine bodyPost_ret (res_play3 f23 rfl rfl hz4 rfl rfl) rfl ?_
            unfold ParAns
            rw [HR.out]
            exact ⟨⟨_, rfl, zero_is _⟩, below_set4 hBW (Nat.le_refl _) _ _ _ _⟩
          · have r1 : ((bA x).toList == []) = false := by rw [bA_list, beq_eq_false_iff_ne]; exact hx0
            have r2 : (bA x).toList ≠ [] := by rw [bA_list]; exact hx0
            have cE := isEvent_w x wr (hL.below hBW)
            have HS : Hid (stepW 1 x P = if isEv x = true then some { P with e := x } else none) := Lib.hid (by
              unfold stepW
              rw [if_neg (by decide), if_pos rfl, if_neg hd, isEv_def x hx0]
              simp)
            clear hd hx0
            go_wp2_with fail
            go_at_call 75
            refine cE.mono ?_
            rintro e w5 ⟨rfl, hk5⟩
            clear hcell cE
            have hpp := hpp.below hk5 hpp.lt
            have hzz := hzz.below hk5 hzz.lt
            have hlr := hlr.below hk5
            have hrw := owns_below hrw hk5
            have hBW := hBW.trans (hk5.mono hBW.size)
            have hszO := hsz
            have hsz := Nat.le_trans hsz hk5.size
            clear p0 p1 p2 p3 gp0 gp1 gp2 gp3 z0 z1 z2 z3 gz0 gz1 gz2 gz3
            obtain ⟨⟨p0, p1, p2, p3⟩, gp0, gp1, gp2, gp3⟩ := box4 hpp
            obtain ⟨⟨z0, z1, z2, z3⟩, gz0, gz1, gz2, gz3⟩ := box4 hzz
            cases hA : isEv x with
            | true =>
              have HS2 : Hid (stepW 1 x P = some { P with e := x }) := Lib.hid (by rw [HS.out, if_pos hA])
              clear HS hA HX
              go_wp2_with fail
              have hpp := hpp.set 1 (.string (bA x))
              simp only [List.setIfInBounds_toArray, List.set_cons_zero, List.set_cons_succ] at hpp
              have hzz := hzz.setCell (a := ⟨B6, 1, none⟩) (by have := HNE.out; simp; omega) (.string (bA x))
              have hrw := ownsRow_setCell_other (a := ⟨B6, 1, none⟩) hrw (by have := HNE.out; simp [Value.ownBlock]; omega) (.string (bA x))
              have hBW := hBW.setCell (p := ⟨B6, 1, none⟩) (by have := HNE.out; simp; omega) (.string (bA x))
              have hlr := hlr.set (b := B6) HNE.out.2.2.2.2.1 1 (.string (bA x))
              have hsz : w2.heap.size ≤ (w5.setCell ⟨B6, 1, none⟩ (.string (bA x))).heap.size := by rw [size_set]; exact hsz
              go_roundw
              case rel => exact HI.out { P with e := x } _ _ HS2.out hpp hlr (by show P.L.length ≤ _; omega) hzz hrw hBW hsz
              case measure => simp [numOf'] <;> omega
            | false =>
              have HS2 : Hid (stepW 1 x P = none) := Lib.hid (by rw [HS.out, hA]; rfl)
              clear HS hA HI
              have hpp := hpp.set 1 (.string (bA x))
              simp only [List.setIfInBounds_toArray, List.set_cons_zero, List.set_cons_succ] at hpp
              have hzz := hzz.setCell (a := ⟨B6, 1, none⟩) (by have := HNE.out; simp; omega) (.string (bA x))
              have hrw := ownsRow_setCell_other (a := ⟨B6, 1, none⟩) hrw (by have := HNE.out; simp [Value.ownBlock]; omega) (.string (bA x))
              have hBW := hBW.setCell (p := ⟨B6, 1, none⟩) (by have := HNE.out; simp; omega) (.string (bA x))
              have hlr := hlr.set (b := B6) HNE.out.2.2.2.2.1 1 (.string (bA x))
              have hsz : w2.heap.size ≤ (w5.setCell ⟨B6, 1, none⟩ (.string (bA x))).heap.size := by rw [size_set]; exact hsz
              have HR := Lib.hid (HX.out HS2.out)
              obtain ⟨⟨y0, y1, y2, y3⟩, gy0, gy1, gy2, gy3⟩ := box4 hzz
              go_wp2_with fail
              have hz4 := hzz.set4 (.string ⟨#[]⟩) (.string ⟨#[]⟩) (.bool false) (.slice none 0 0)
              refine bodyPost_ret (res_play3 f23 rfl rfl hz4 rfl rfl) rfl ?_
              unfold ParAns
              rw [HR.out]
              exact ⟨⟨_, rfl, zero_is _⟩, below_set4 hBW (Nat.le_refl _) _ _ _ _⟩
      | N + 2 =>
        obtain ⟨M, hM⟩ : ∃ M, N + 2 = M := ⟨_, rfl⟩
        rw [hM] at hcell HI HX hPl hNK hN0 hNn ⊢
        have m2 : 2 ≤ M := by omega
        have t0 : ((M : Int) == 0) = false := by rw [beq_eq_false_iff_ne]; omega
        have t1 : ((M : Int) == 1) = false := by rw [beq_eq_false_iff_ne]; omega
        by_cases hlate : M = 2 ∧ x = [108, 97, 116, 101]
        · have HS : Hid (stepW M x P = some { P with lx := true }) := Lib.hid (by
            unfold stepW
            rw [if_neg (by omega), if_neg (by omega), if_pos hlate])
          have eb : bA x = ({ data := #[108, 97, 116, 101] } : ByteArray) := by rw [hlate.2]; rfl
          have hxl : x.length = 4 := by rw [hlate.2]; rfl
          have hM2 := hlate.1
          rw [eb] at hcell hsx
          rw [hxl] at HI hsx hat
          clear hlate eb hxl HX hM
          subst hM2
          have e2 : (((2 : Nat) : Int)) = 2 := rfl
          rw [e2] at HI hNK hN0 ⊢
          go_wp2_with fail
          have hpp := hpp.set 2 (.bool true)
          simp only [List.setIfInBounds_toArray, List.set_cons_zero, List.set_cons_succ] at hpp
          have hzz := hzz.setCell (a := ⟨B6, 2, none⟩) (by have := HNE.out; simp; omega) (.bool true)
          have hrw := ownsRow_setCell_other (a := ⟨B6, 2, none⟩) hrw (by have := HNE.out; simp [Value.ownBlock]; omega) (.bool true)
          have hBW := hBW.setCell (p := ⟨B6, 2, none⟩) (by have := HNE.out; simp; omega) (.bool true)
          have hlr := hlr.set (b := B6) HNE.out.2.2.2.2.1 2 (.bool true)
          have hsz : w2.heap.size ≤ (wr.setCell ⟨B6, 2, none⟩ (.bool true)).heap.size := by rw [size_set]; exact hsz
          go_roundw
          case rel => exact HI.out { P with lx := true } _ _ HS.out hpp hlr (by show P.L.length ≤ _; omega) hzz hrw hBW hsz
          case measure => simp [numOf'] <;> omega
        · have HS : Hid (stepW M x P = if pmOk x = true then some { P with L := P.L ++ [pmM x] } else none) := Lib.hid (by
            unfold stepW
            rw [if_neg (by omega), if_neg (by omega), if_neg hlate])
          have t2 : (((M : Int) == 2) = false ∧ 1 = 1) ∨ (((M : Int) == 2) = true ∧ ((bA x).toList == [108, 97, 116, 101]) = false ∧ (bA x).toList ≠ [108, 97, 116, 101]) := by
            by_cases q : M = 2
            · right
              have q' : x ≠ [108, 97, 116, 101] := fun e => hlate ⟨q, e⟩
              exact ⟨by rw [beq_iff_eq]; omega, by rw [bA_list, beq_eq_false_iff_ne]; exact q', by rw [bA_list]; exact q'⟩
            · left
              exact ⟨by rw [beq_eq_false_iff_ne]; omega, rfl⟩
          have cP := parseMoveR_w x (by omega) wr
          clear hM hlate
          rcases t2 with ⟨t2, -⟩ | ⟨t2, t3, t4⟩
          · as_aux_lemma =>
              go_wp2_with fail
              go_at_call 89
              refine cP.mono ?_
              rintro e w5 ⟨⟨c, rfl, hown⟩, hk5⟩
              have hszO := hsz
              clear hcell cP
              obtain ⟨f1, f2, xb, s, a5, k5, c5⟩ := c
              dsimp only at hown ⊢
              have hal := (Below.refl w5.heap.size w5).alloc (Nat.le_refl _) (.cells #[.int .i64 f1, .int .i64 f2, .bool xb, .string s, .slice a5 k5 c5] 27)
              have hk := hk5.trans (hal.mono hk5.size)
              have hpp := hpp.below hk hpp.lt
              have hzz := hzz.below hk hzz.lt
              have hlr := hlr.below hk
              have hrw := owns_below hrw hk
              have hBW := hBW.trans (hk.mono hBW.size)
              have hsz5 := Nat.le_trans hsz hk5.size
              have hsz := Nat.le_trans hsz hk.size
              have hN5 := at_new w5 #[.int .i64 f1, .int .i64 f2, .bool xb, .string s, .slice a5 k5 c5] 27
              have hown := fun h => ((hown h).le hszO).below hal
              clear p0 p1 p2 p3 gp0 gp1 gp2 gp3 z0 z1 z2 z3 gz0 gz1 gz2 gz3
              have hs5 : (w5.alloc (.cells #[.int .i64 f1, .int .i64 f2, .bool xb, .string s, .slice a5 k5 c5] 27)).heap.size = w5.heap.size + 1 := by simp
              clear hal hk hk5
              go_wp2_with (first
                | (with_reducible refine halt_at ?_)
                | fail)
              unfold Halt
              obtain ⟨W5, hW5⟩ : ∃ W : World, w5.alloc (.cells #[.int .i64 f1, .int .i64 f2, .bool xb, .string s, .slice a5 k5 c5] 27) = W := ⟨_, rfl⟩
              rw [hW5] at hN5 hlr hpp hzz hrw hown hBW hsz hs5 ⊢
              clear hW5
              have hs5' : w5.heap.size < W5.heap.size := by omega
              clear hs5
              obtain ⟨⟨x0, x1, x2, x3, x4⟩, -⟩ := box5 hN5
              obtain ⟨⟨p0, p1, p2, p3⟩, gp0, gp1, gp2, gp3⟩ := box4 hpp
              have hal2 := (Below.refl W5.heap.size W5).alloc (Nat.le_refl _) (.cells #[.int .i64 f1, .int .i64 f2, .bool xb, .string s, .slice a5 k5 c5] 27)
              have hlrA := hlr.below hal2
              go_wp2_with (first
                | (with_reducible refine haltM ?_)
                | fail)
              unfold Halt
              refine wpList_sliceM _ rfl _ rfl f1 f2 xb s a5 k5 c5 rfl ?_
              refine wpList_appendM _ rfl _ _ rfl w2.heap.size W5.heap.size P.L _ rfl 1 rfl hlrA ?c1 ⟨f1, f2, xb, s, a5, k5, c5⟩ (at_new _ _ _) ?c2 ?_
              case c1 => omega
              case c2 => simp; omega
              intro a9 k9 c9 w9 hA
              have hppA := (hA.old _ HNE.out.2.2.2.2.1 (by have := HNE.out; simp; omega)).trans (hpp.alloc _)
              have hzzA : At w9 w.heap.size #[.string ⟨#[]⟩, .string ⟨#[]⟩, .bool false, .slice none 0 0] 24 := (hA.old _ (by have := HNE.out; omega) (by have := HNE.out; simp; omega)).trans (hzz.alloc _)
              have hrwA := owns_old (owns_below hrw hal2) (by have := HNE.out; omega) hA
              have hBWA : Below w.heap.size w w9 := hA.below w (hBW.alloc (by have := HNE.out; omega) _) (by have := HNE.out; omega)
              have hszA : w2.heap.size ≤ w9.heap.size := Nat.le_trans hsz (Nat.le_trans hal2.size hA.size)
              have hrowA := fun h => hA.row _ ((hown h).below hal2)
              clear hN5 hlr hpp hzz hrw hown hBW hsz hal2 hlrA hA p0 p1 p2 p3 gp0 gp1 gp2 gp3 x0 x1 x2 x3 x4
              have hppA : At w9 B6 #[.string (bA P.a), .string (bA P.e), .bool P.lx, v] 24 := hppA
              obtain ⟨⟨p0, p1, p2, p3⟩, gp0, gp1, gp2, gp3⟩ := box4 hppA
              obtain ⟨⟨z0, z1, z2, z3⟩, gz0, gz1, gz2, gz3⟩ := box4 hzzA
              have hpp := hppA.set 3 (.slice a9 k9 c9)
              simp only [List.setIfInBounds_toArray, List.set_cons_zero, List.set_cons_succ] at hpp
              have hzz := hzzA.setCell (a := ⟨B6, 3, none⟩) (by have := HNE.out; simp; omega) (.slice a9 k9 c9)
              have hrw := ownsRow_setCell_other (a := ⟨B6, 3, none⟩) hrwA (by have := HNE.out; simp [Value.ownBlock]; omega) (.slice a9 k9 c9)
              have hBW := hBWA.setCell (p := ⟨B6, 3, none⟩) (by have := HNE.out; simp; omega) (.slice a9 k9 c9)
              have hlr := fun h => (hrowA h).set (b := B6) HNE.out.2.2.2.2.1 3 (.slice a9 k9 c9)
              have hsz : w2.heap.size ≤ (w9.setCell ⟨B6, 3, none⟩ (.slice a9 k9 c9)).heap.size := by rw [size_set]; exact hszA
              clear hppA hzzA hrwA hBWA hrowA hszA
              cases hok : pmOk x with
              | true =>
                have HS2 : Hid (stepW M x P = some { P with L := P.L ++ [pmM x] }) := Lib.hid (by rw [HS.out, if_pos hok])
                have hlr := hlr hok
                clear HS hok HX
                go_wp2_with fail
                go_roundw
                case rel => exact HI.out { P with L := P.L ++ [pmM x] } _ _ HS2.out hpp hlr (by show (P.L ++ [pmM x]).length ≤ _; rw [List.length_append]; simp; omega) hzz hrw hBW hsz
                case measure => simp [numOf'] <;> omega
              | false =>
                have HS2 : Hid (stepW M x P = none) := Lib.hid (by rw [HS.out, hok]; rfl)
                clear HS hok HI hlr
                have HR := Lib.hid (HX.out HS2.out)
                obtain ⟨⟨y0, y1, y2, y3⟩, gy0, gy1, gy2, gy3⟩ := box4 hzz
                go_wp2_with fail
                have hz4 := hzz.set4 (.string ⟨#[]⟩) (.string ⟨#[]⟩) (.bool false) (.slice none 0 0)
                refine bodyPost_ret (res_play3 f23 rfl rfl hz4 rfl rfl) rfl ?_
                unfold ParAns
                rw [HR.out]
                exact ⟨⟨_, rfl, zero_is _⟩, below_set4 hBW (Nat.le_refl _) _ _ _ _⟩
          · as_aux_lemma =>
              go_wp2_with fail
              go_at_call 89
              refine cP.mono ?_
              rintro e w5 ⟨⟨c, rfl, hown⟩, hk5⟩
              have hszO := hsz
              clear hcell cP
              obtain ⟨f1, f2, xb, s, a5, k5, c5⟩ := c
              dsimp only at hown ⊢
              have hal := (Below.refl w5.heap.size w5).alloc (Nat.le_refl _) (.cells #[.int .i64 f1, .int .i64 f2, .bool xb, .string s, .slice a5 k5 c5] 27)
              have hk := hk5.trans (hal.mono hk5.size)
              have hpp := hpp.below hk hpp.lt
              have hzz := hzz.below hk hzz.lt
              have hlr := hlr.below hk
              have hrw := owns_below hrw hk
              have hBW := hBW.trans (hk.mono hBW.size)
              have hsz5 := Nat.le_trans hsz hk5.size
              have hsz := Nat.le_trans hsz hk.size
              have hN5 := at_new w5 #[.int .i64 f1, .int .i64 f2, .bool xb, .string s, .slice a5 k5 c5] 27
              have hown := fun h => ((hown h).le hszO).below hal
              clear p0 p1 p2 p3 gp0 gp1 gp2 gp3 z0 z1 z2 z3 gz0 gz1 gz2 gz3
              have hs5 : (w5.alloc (.cells #[.int .i64 f1, .int .i64 f2, .bool xb, .string s, .slice a5 k5 c5] 27)).heap.size = w5.heap.size + 1 := by simp
              clear hal hk hk5
              go_wp2_with (first
                | (with_reducible refine halt_at ?_)
                | fail)
              unfold Halt
              obtain ⟨W5, hW5⟩ : ∃ W : World, w5.alloc (.cells #[.int .i64 f1, .int .i64 f2, .bool xb, .string s, .slice a5 k5 c5] 27) = W := ⟨_, rfl⟩
              rw [hW5] at hN5 hlr hpp hzz hrw hown hBW hsz hs5 ⊢
              clear hW5
              have hs5' : w5.heap.size < W5.heap.size := by omega
              clear hs5
              obtain ⟨⟨x0, x1, x2, x3, x4⟩, -⟩ := box5 hN5
              obtain ⟨⟨p0, p1, p2, p3⟩, gp0, gp1, gp2, gp3⟩ := box4 hpp
              have hal2 := (Below.refl W5.heap.size W5).alloc (Nat.le_refl _) (.cells #[.int .i64 f1, .int .i64 f2, .bool xb, .string s, .slice a5 k5 c5] 27)
              have hlrA := hlr.below hal2
              go_wp2_with (first
                | (with_reducible refine haltM ?_)
                | fail)
              unfold Halt
              refine wpList_sliceM _ rfl _ rfl f1 f2 xb s a5 k5 c5 rfl ?_
              refine wpList_appendM _ rfl _ _ rfl w2.heap.size W5.heap.size P.L _ rfl 1 rfl hlrA ?c1 ⟨f1, f2, xb, s, a5, k5, c5⟩ (at_new _ _ _) ?c2 ?_
              case c1 => omega
              case c2 => simp; omega
              intro a9 k9 c9 w9 hA
              have hppA := (hA.old _ HNE.out.2.2.2.2.1 (by have := HNE.out; simp; omega)).trans (hpp.alloc _)
              have hzzA : At w9 w.heap.size #[.string ⟨#[]⟩, .string ⟨#[]⟩, .bool false, .slice none 0 0] 24 := (hA.old _ (by have := HNE.out; omega) (by have := HNE.out; simp; omega)).trans (hzz.alloc _)
              have hrwA := owns_old (owns_below hrw hal2) (by have := HNE.out; omega) hA
              have hBWA : Below w.heap.size w w9 := hA.below w (hBW.alloc (by have := HNE.out; omega) _) (by have := HNE.out; omega)
              have hszA : w2.heap.size ≤ w9.heap.size := Nat.le_trans hsz (Nat.le_trans hal2.size hA.size)
              have hrowA := fun h => hA.row _ ((hown h).below hal2)
              clear hN5 hlr hpp hzz hrw hown hBW hsz hal2 hlrA hA p0 p1 p2 p3 gp0 gp1 gp2 gp3 x0 x1 x2 x3 x4
              have hppA : At w9 B6 #[.string (bA P.a), .string (bA P.e), .bool P.lx, v] 24 := hppA
              obtain ⟨⟨p0, p1, p2, p3⟩, gp0, gp1, gp2, gp3⟩ := box4 hppA
              obtain ⟨⟨z0, z1, z2, z3⟩, gz0, gz1, gz2, gz3⟩ := box4 hzzA
              have hpp := hppA.set 3 (.slice a9 k9 c9)
              simp only [List.setIfInBounds_toArray, List.set_cons_zero, List.set_cons_succ] at hpp
              have hzz := hzzA.setCell (a := ⟨B6, 3, none⟩) (by have := HNE.out; simp; omega) (.slice a9 k9 c9)
              have hrw := ownsRow_setCell_other (a := ⟨B6, 3, none⟩) hrwA (by have := HNE.out; simp [Value.ownBlock]; omega) (.slice a9 k9 c9)
              have hBW := hBWA.setCell (p := ⟨B6, 3, none⟩) (by have := HNE.out; simp; omega) (.slice a9 k9 c9)
              have hlr := fun h => (hrowA h).set (b := B6) HNE.out.2.2.2.2.1 3 (.slice a9 k9 c9)
              have hsz : w2.heap.size ≤ (w9.setCell ⟨B6, 3, none⟩ (.slice a9 k9 c9)).heap.size := by rw [size_set]; exact hszA
              clear hppA hzzA hrwA hBWA hrowA hszA
              cases hok : pmOk x with
              | true =>
                have HS2 : Hid (stepW M x P = some { P with L := P.L ++ [pmM x] }) := Lib.hid (by rw [HS.out, if_pos hok])
                have hlr := hlr hok
                clear HS hok HX
                go_wp2_with fail
                go_roundw
                case rel => exact HI.out { P with L := P.L ++ [pmM x] } _ _ HS2.out hpp hlr (by show (P.L ++ [pmM x]).length ≤ _; rw [List.length_append]; simp; omega) hzz hrw hBW hsz
                case measure => simp [numOf'] <;> omega
              | false =>
                have HS2 : Hid (stepW M x P = none) := Lib.hid (by rw [HS.out, hok]; rfl)
                clear HS hok HI hlr
                have HR := Lib.hid (HX.out HS2.out)
                obtain ⟨⟨y0, y1, y2, y3⟩, gy0, gy1, gy2, gy3⟩ := box4 hzz
                go_wp2_with fail
                have hz4 := hzz.set4 (.string ⟨#[]⟩) (.string ⟨#[]⟩) (.bool false) (.slice none 0 0)
                refine bodyPost_ret (res_play3 f23 rfl rfl hz4 rfl rfl) rfl ?_
                unfold ParAns
                rw [HR.out]
                exact ⟨⟨_, rfl, zero_is _⟩, below_set4 hBW (Nat.le_refl _) _ _ _ _⟩
end Go.Proofs.Tryz
