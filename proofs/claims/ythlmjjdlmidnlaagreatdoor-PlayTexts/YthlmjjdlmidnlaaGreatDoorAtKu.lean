/- Parse of the program: a range over a function. -/
import Derived.Test.YthlmjjdlmidnlaaGreatDoorAtHu
import Derived.WalkMore
import Derived.Test.YthlmjjdlmidnlaaGreatDoorAsAku
namespace Go.Proofs.Tryz
open Go Go.Am Go.RowKit Go.Dr Go.Shelf
set_option maxRecDepth 100000
attribute [local go_sem] Oper.semAt_some

theorem At.put5q {w : World} {b D : Nat} {cs : Array Value} {e : TypeId} (h : At w b cs e) (hD : b ≠ D) (v0 v1 v2 v3 v4 : Value) : At (Go.Proofs.Tryz.put5 w D v0 v1 v2 v3 v4) b cs e := (set5_block hD v0 v1 v2 v3 v4).trans h
theorem LsR.putD {w : World} {base D : Nat} {L : List MvD} {v : Value} (h : LsR w base L v) (hD : w.heap[D]? = some (.deferred (some []))) : LsR (w.putObj D (.deferred none)) base L v :=
  h.abide (B := w.putObj D (.deferred none)) (row := some D) ⟨rfl, rfl, rfl, by simp, fun k _ hne => World.putObj_heap_other (fun e => hne (by rw [e]))⟩ (fun r hr => by
    obtain rfl := Option.some.inj hr
    exact ⟨_, hD, rfl⟩)
theorem results_cell3 {fn : Func} {p u t : Tmp} {ty : TypeId} (h : fn.results = #[.cell p ty, .tmp u, .tmp t]) (tmps : Array Value) (P : Program) (w : World) :
    (results fn tmps).run P w =
      ((asAddr (tmps.getD p undef)).run P w).andThen fun a w₁ => ((loadVar ty a).run P w₁).andThen fun v w₂ => .ok (.tuple #[v, tmps.getD u undef, tmps.getD t undef]) w₂ := by
  simp only [results, h]
  simp [Sem.run_bind, Result.andThen]
/-- A play and two numbers, as Parse hands them back. -/
theorem res_play {tmps : Array Value} {W : World} {b : Nat} {c0 c1 c2 c3 : Value} (f : Func) (hf : f.results = #[.cell 2 24, .tmp 3, .tmp 4]) (hp : tmps.getD 2 undef = .pointer (some ⟨b, 0, none⟩)) (hz : At W b #[c0, c1, c2, c3] 24) {k e : Value} (hk : tmps.getD 3 undef = k) (he : tmps.getD 4 undef = e) :
    (results f tmps).run prog W = .ok (.tuple #[.agg #[c0, c1, c2, c3], k, e]) W := by
  obtain ⟨⟨y0, y1, y2, y3⟩, -⟩ := box4 hz
  rw [results_cell3 hf, hp, hk, he]
  simp [go_sem, y0, y1, y2, y3]
theorem wpIn_scope_wide {n : Nat} {c : Code} {Q : Exit → Act → World → Prop} {a : Act} {w : World} (h : c.wpIn Fence.wide n prog (Exit.noGoto Q) a w) : (Code.scope c).wpIn Fence.wide n prog Q a w := wpIn_wide.2 (wp_scope_straight ((wpIn_wide (n := n)).1 h))

set_option maxHeartbeats 6400000 in
theorem parse_own (l : List UInt8) (hl : l.length ≤ 4096) (w : World) (hL : Laid w) (hm : MaxL w) :
    Calls prog 22 #[.string (bA l)] w fun e w' => (∃ mv, e = .returned (.tuple #[.agg #[.string (parL l).p.s1, .string (parL l).p.s2, .bool (parL l).p.lx, mv], .int .i64 ((parL l).k : Int), .int .i64 (parL l).e]) ∧ OwnMoves w' w.heap.size mv (dOf (parL l).p.L) (parL l).p.L.length) ∧ Below w.heap.size w w' := by
  have hs : (bA l).size = l.length := bA_size l
  refine (callsIn_wide (n := 5)).1 ?_
  refine callsIn_of_wp_marks func22 rfl trivial ?_ rfl
  simp only [ntmps22, List.size_toArray, List.length_cons, List.length_nil, Nat.reduceAdd, Nat.reduceSub, Array.replicate_succ, Array.replicate_zero, List.push_toArray, List.append_toArray, List.nil_append, List.cons_append]
  have hk : ¬ (4096 < (l.length : Int)) := by omega
  gi_wp2
  refine wpIn_scope_wide ?_
  gi_wp2_with fail
  refine wpIn_label ?_
  gi_wp2_with (refine ⟨trivial, ?_⟩; gi_at_call 85; refine (callsIn_wide.2 (words_w l _)).mono ?_; rintro e w' ⟨rfl, rfl⟩)
  have hz : At ((((((w.alloc (.cells #[.string ⟨#[]⟩, .string ⟨#[]⟩, .bool false, .slice none 0 0] 24)).alloc (.cells #[.string ⟨#[]⟩, .string ⟨#[]⟩, .bool false, .slice none 0 0] 24)).alloc (.cells #[.int .i64 0] 3)).alloc (.cells #[.int .i64 (-1)] 3)).alloc (.cells #[.string (bA l)] 9))) w.heap.size #[.string ⟨#[]⟩, .string ⟨#[]⟩, .bool false, .slice none 0 0] 24 := (((at2_0 _ _ _ _ _).alloc _).alloc _).alloc _
  have hp : At ((((((w.alloc (.cells #[.string ⟨#[]⟩, .string ⟨#[]⟩, .bool false, .slice none 0 0] 24)).alloc (.cells #[.string ⟨#[]⟩, .string ⟨#[]⟩, .bool false, .slice none 0 0] 24)).alloc (.cells #[.int .i64 0] 3)).alloc (.cells #[.int .i64 (-1)] 3)).alloc (.cells #[.string (bA l)] 9))) (w.heap.size + 1) #[.string ⟨#[]⟩, .string ⟨#[]⟩, .bool false, .slice none 0 0] 24 := (((at2_1 _ _ _ _ _).alloc _).alloc _).alloc _
  have hn : At ((((((w.alloc (.cells #[.string ⟨#[]⟩, .string ⟨#[]⟩, .bool false, .slice none 0 0] 24)).alloc (.cells #[.string ⟨#[]⟩, .string ⟨#[]⟩, .bool false, .slice none 0 0] 24)).alloc (.cells #[.int .i64 0] 3)).alloc (.cells #[.int .i64 (-1)] 3)).alloc (.cells #[.string (bA l)] 9))) (w.heap.size + 1 + 1) #[.int .i64 0] 3 := by
    have := ((at_new ((w.alloc (.cells #[.string ⟨#[]⟩, .string ⟨#[]⟩, .bool false, .slice none 0 0] 24)).alloc (.cells #[.string ⟨#[]⟩, .string ⟨#[]⟩, .bool false, .slice none 0 0] 24)) #[.int .i64 0] 3).alloc (.cells #[.int .i64 (-1)] 3)).alloc (.cells #[.string (bA l)] 9)
    simpa using this
  have hw : At ((((((w.alloc (.cells #[.string ⟨#[]⟩, .string ⟨#[]⟩, .bool false, .slice none 0 0] 24)).alloc (.cells #[.string ⟨#[]⟩, .string ⟨#[]⟩, .bool false, .slice none 0 0] 24)).alloc (.cells #[.int .i64 0] 3)).alloc (.cells #[.int .i64 (-1)] 3)).alloc (.cells #[.string (bA l)] 9))) (w.heap.size + 1 + 1 + 1) #[.int .i64 (-1)] 3 := by
    have := (at_new (((w.alloc (.cells #[.string ⟨#[]⟩, .string ⟨#[]⟩, .bool false, .slice none 0 0] 24)).alloc (.cells #[.string ⟨#[]⟩, .string ⟨#[]⟩, .bool false, .slice none 0 0] 24)).alloc (.cells #[.int .i64 0] 3)) #[.int .i64 (-1)] 3).alloc (.cells #[.string (bA l)] 9)
    simpa using this
  have hb : At ((((((w.alloc (.cells #[.string ⟨#[]⟩, .string ⟨#[]⟩, .bool false, .slice none 0 0] 24)).alloc (.cells #[.string ⟨#[]⟩, .string ⟨#[]⟩, .bool false, .slice none 0 0] 24)).alloc (.cells #[.int .i64 0] 3)).alloc (.cells #[.int .i64 (-1)] 3)).alloc (.cells #[.string (bA l)] 9))) (w.heap.size + 1 + 1 + 1 + 1) #[.string (bA l)] 9 := by
    have := at_new ((((w.alloc (.cells #[.string ⟨#[]⟩, .string ⟨#[]⟩, .bool false, .slice none 0 0] 24)).alloc (.cells #[.string ⟨#[]⟩, .string ⟨#[]⟩, .bool false, .slice none 0 0] 24)).alloc (.cells #[.int .i64 0] 3)).alloc (.cells #[.int .i64 (-1)] 3)) #[.string (bA l)] 9
    simpa using this
  have hB : Below w.heap.size w ((((((w.alloc (.cells #[.string ⟨#[]⟩, .string ⟨#[]⟩, .bool false, .slice none 0 0] 24)).alloc (.cells #[.string ⟨#[]⟩, .string ⟨#[]⟩, .bool false, .slice none 0 0] 24)).alloc (.cells #[.int .i64 0] 3)).alloc (.cells #[.int .i64 (-1)] 3)).alloc (.cells #[.string (bA l)] 9))) :=
    (((((Below.refl _ w).alloc (Nat.le_refl _) _).alloc (by simp) _).alloc (by simp; omega) _).alloc (by simp; omega) _).alloc (by simp; omega) _
  generalize ((((((w.alloc (.cells #[.string ⟨#[]⟩, .string ⟨#[]⟩, .bool false, .slice none 0 0] 24)).alloc (.cells #[.string ⟨#[]⟩, .string ⟨#[]⟩, .bool false, .slice none 0 0] 24)).alloc (.cells #[.int .i64 0] 3)).alloc (.cells #[.int .i64 (-1)] 3)).alloc (.cells #[.string (bA l)] 9))) = W0 at hz hp hn hw hb hB ⊢
  obtain ⟨B4, hB4⟩ : ∃ B, w.heap.size + 1 + 1 + 1 + 1 = B := ⟨_, rfl⟩
  rw [hB4] at hb ⊢
  obtain ⟨bw, hbw⟩ : ∃ B, w.heap.size + 1 + 1 + 1 = B := ⟨_, rfl⟩
  rw [hbw] at hw ⊢
  obtain ⟨bn, hbn⟩ : ∃ B, w.heap.size + 1 + 1 = B := ⟨_, rfl⟩
  rw [hbn] at hn ⊢
  obtain ⟨bp, hbp⟩ : ∃ B, w.heap.size + 1 = B := ⟨_, rfl⟩
  rw [hbp] at hp ⊢
  have o1 : w.heap.size < bp := by omega
  have o2 : bp < bn := by omega
  have o3 : bn < bw := by omega
  have o4 : bw < W0.heap.size := by have := hw.lt; omega
  have h0 : ParI w bp bn bw W0.heap.size [] W0 := ⟨⟨p0St, _, rfl, hp, LsR.start _ _, Nat.le_refl _, hn, hw, hz, Nat.le_refl _⟩, hB⟩
  have hmW := hm.below hB
  have hsW := (box1 hb).1
  have hLB : Laid W0 := hL.below hB
  have hk' : decide (4096 < (l.length : Int)) = false := decide_eq_false (by omega)
  rw [hk']
  clear hbp hbn hbw hB4 hp hn hw hz hb
  refine wpIn_rangeFunc_ownF rfl (by omega) (gf := 122) (lb := #[.pointer (some ⟨B4, 0, none⟩)]) rfl trivial (enters_of func122 (by kernel_rfl) rfl) (words_stops 4 (by omega) l hl B4 W0 hmW hsW) Kp9.t kp9_b (Below.refl _ _) (fun _ => rfl)
    (ParI w bp bn bw W0.heap.size) (ParX w bn bw) (parI_own w bp bn bw _ _ hB.size) (fun c => parX_own w bn bw _ hB.size c) h0
    (fun x => { tmps := #[.string (bA l), undef, .pointer (some ⟨w.heap.size, 0, none⟩), .int .i64 0, .int .i64 0, .pointer (some ⟨bp, 0, none⟩), .pointer (some ⟨bn, 0, none⟩), .pointer (some ⟨bw, 0, none⟩), .int .i64 (x.1 : Int), .string (bA (x.2.take 4096)), undef, undef, undef, .string (bA l), .int .i64 (l.length : Int), .bool false, undef, .string (bA l), .func (.func 122) #[] #[.pointer (some ⟨B4, 0, none⟩)], .int .i64 (x.1 : Int), .string (bA (x.2.take 4096)),
      undef, undef, undef, undef, undef, undef, undef, undef, undef, undef, undef, undef, undef, undef, undef, undef, undef, undef, undef, undef, undef, undef, undef, undef, undef, undef, undef, undef, undef, undef, undef, undef, undef, undef, undef, undef, undef, undef, undef, undef, undef, undef, undef, undef, undef, undef, undef, undef, undef, undef, undef, undef, undef, undef, undef, undef, undef, undef, undef, undef, undef, undef, undef, undef, undef, undef, undef, undef, undef, undef, undef, undef, undef, undef, undef, undef, undef, undef, undef, undef], defers := [] }) ?assign ?body ?done ?stop
  case assign =>
    intro l' x W K hK
    dsimp only [encW]
    gi_wp2
    exact hK
  case body =>
    rintro l' pre x W ⟨⟨P, v, hacc, hpp, hlr, hPl, hnn, hww, hzz, hsz⟩, hBW⟩ hlen
    have hlen' : pre.length < 4097 := by
      have := spl_length 32 l
      have := List.count_le_length (a := (32 : UInt8)) (l := l)
      omega
    obtain ⟨wd, hwd⟩ : ∃ wd, x.2.take 4096 = wd := ⟨_, rfl⟩
    have hwl : wd.length ≤ 4096 := by rw [← hwd, List.length_take]; omega
    obtain ⟨n1, gn⟩ := box1 hnn
    obtain ⟨w1, gw⟩ := box1 hww
    obtain ⟨⟨p0, p1, p2, p3⟩, gp0, gp1, gp2, gp3⟩ := box4 hpp
    have HI : Hid (∀ (P' : PSt) (v' : Value) (W' : World), stepW pre.length wd P = some P' → At W' bp #[.string (bA P'.a), .string (bA P'.e), .bool P'.lx, v'] 24 → LsR W' W0.heap.size P'.L v' → P'.L.length ≤ pre.length + 1 →
        At W' bn #[.int .i64 ((pre.length : Int) + 1)] 3 → At W' bw #[.int .i64 (-1)] 3 → At W' w.heap.size #[.string ⟨#[]⟩, .string ⟨#[]⟩, .bool false, .slice none 0 0] 24 → W0.heap.size ≤ W'.heap.size → Below w.heap.size w W' → ParI w bp bn bw W0.heap.size (pre ++ [x]) W') := Lib.hid fun P' v' W' h1 h2 h3 h4 h5 h6 h7 h8 h9 => by
      refine ⟨⟨P', v', ?_, h2, h3, by rw [List.length_append]; exact h4, ?_, h6, h7, h8⟩, h9⟩
      · rw [wds_snoc, accW_snoc, hacc, wds_len, Nat.zero_add, hwd]
        exact h1
      · have e : (((pre ++ [x]).length : Nat) : Int) = (pre.length : Int) + 1 := by rw [List.length_append]; simp
        rw [e]; exact h5
    have HX : Hid (∀ (W' : World), stepW pre.length wd P = none → At W' bn #[.int .i64 (pre.length : Int)] 3 → At W' bw #[.int .i64 (x.1 : Int)] 3 → At W' w.heap.size #[.string ⟨#[]⟩, .string ⟨#[]⟩, .bool false, .slice none 0 0] 24 → Below w.heap.size w W' → ParX w bn bw (.exit 0) (pre ++ [x]) W') := Lib.hid fun W' h1 h2 h3 h4 h5 => by
      exact ⟨⟨rfl, pre, x, P, rfl, hacc, by rw [hwd]; exact h1, h2, h3, h4⟩, h5⟩
    have hne := Lib.hid (show bn ≠ bp ∧ bw ≠ bp ∧ w.heap.size ≠ bp ∧ bw ≠ bn ∧ w.heap.size ≠ bn ∧ w.heap.size ≠ bw from by omega)
    rw [hwd]
    obtain ⟨k, hkx⟩ : ∃ k : Int, (x.1 : Int) = k := ⟨_, rfl⟩
    rw [hkx] at HX ⊢
    obtain ⟨N, hN⟩ : ∃ N, pre.length = N := ⟨_, rfl⟩
    rw [hN] at hnn n1 hPl HI HX hlen'
    clear h0 hmW hsW hLB hk' hk hacc hwd hkx hN hlen hL
    match N with
    | 0 =>
      have e0 : (((0 : Nat) : Int)) = 0 := rfl
      rw [e0] at hnn n1 HI HX
      by_cases hd : wd = [45]
      · have hs0 : stepW 0 wd P = some P := by unfold stepW; rw [if_pos rfl, if_pos hd]
        subst hd
        have eb : bA [45] = ({ data := #[45] } : ByteArray) := rfl
        rw [eb]
        have HS := Lib.hid hs0
        clear hs0 eb hm
        gi_wp2
        have hn5 := hnn.set 0 (.int .i64 1)
        simp only [List.setIfInBounds_toArray, List.set_cons_zero] at hn5
        exact ⟨KeepsOthers.setCell _ _ _, Kp9.set hnn (by decide) _ _, HI.out P v _ HS.out (hpp.setCell (by simpa using hne.out.1.symm) _) (hlr.set (by omega) _ _) (by omega) hn5 (hww.setCell (by simpa using hne.out.2.2.2.1) _) (hzz.setCell (by simpa using hne.out.2.2.2.2.1) _) (by rw [size_set]; exact hsz) (hBW.setCell (p := ⟨bn, 0, none⟩) (by simp; omega) _)⟩
      · have q1 : ((bA wd).toList == [45]) = false := by rw [bA_list, beq_eq_false_iff_ne]; exact hd
        have q2 : (bA wd).toList ≠ [45] := by rw [bA_list]; exact hd
        by_cases hz0 : wd = []
        · have hs0 : stepW 0 wd P = none := by unfold stepW; rw [if_pos rfl, if_neg hd, if_neg (fun q => q.1 hz0)]
          subst hz0
          have eb : bA [] = ({ data := #[] } : ByteArray) := rfl
          rw [eb] at q1 q2 ⊢
          have HS := Lib.hid hs0
          clear hs0 eb hm hd
          have hp5 := hpp.set 0 (.string ⟨#[]⟩)
          gi_wp2_with fail
          refine ⟨trivial, ?_⟩
          have hw5 := (hww.setCell (a := ⟨bp, 0, none⟩) (by simpa using hne.out.2.1) (.string ⟨#[]⟩))
          obtain ⟨w5, gw5⟩ := box1 hw5
          have hw6 := hw5.set 0 (.int .i64 k)
          simp only [List.setIfInBounds_toArray, List.set_cons_zero] at hw6
          gi_wp2
          exact ⟨(KeepsOthers.setCell _ _ _).trans (KeepsOthers.setCell _ _ _), HX.out _ HS.out ((hnn.setCell (by simpa using hne.out.1) _).setCell (by simpa using hne.out.2.2.2.1.symm) _) hw6 ((hzz.setCell (by simpa using hne.out.2.2.1) _).setCell (by simpa using hne.out.2.2.2.2.2) _) ((hBW.setCell (p := ⟨bp, 0, none⟩) (by simp; omega) _).setCell (p := ⟨bw, 0, none⟩) (by simp; omega) _)⟩
        · have r1 : ((bA wd).toList == []) = false := by rw [bA_list, beq_eq_false_iff_ne]; exact hz0
          have r2 : (bA wd).toList ≠ [] := by rw [bA_list]; exact hz0
          have cT := trim_w wd (by omega) W
          have HS : Hid (stepW 0 wd P = if wd.all pitB = true then some { P with a := wd } else none) := Lib.hid (by
            unfold stepW
            rw [if_pos rfl, if_neg hd]
            by_cases q : wd.all pitB = true
            · rw [if_pos ⟨hz0, q⟩, if_pos q]
            · rw [if_neg (fun u => q u.2), if_neg q])
          clear hm hd hz0
          gi_wp2_with fail
          refine ⟨trivial, ?_⟩
          gi_at_call 86
          refine (CallsIn.inRound l' (callsIn_wide.2 cT)).mono ?_
          rintro e w5 ⟨⟨z, rfl, hz⟩, hk5⟩
          have hpp := hpp.below hk5 hpp.lt
          have hnn := hnn.below hk5 hnn.lt
          have hww := hww.below hk5 hww.lt
          have hzz := hzz.below hk5 hzz.lt
          have hlr := hlr.below hk5
          have hBW := hBW.trans (hk5.mono hBW.size)
          have hsz := Nat.le_trans hsz hk5.size
          have hK5 := keeps_below hk5
          have hK9 := Kp9.below hk5
          clear cT n1 gn w1 gw p0 p1 p2 p3 gp0 gp1 gp2 gp3
          obtain ⟨n1, gn⟩ := box1 hnn
          obtain ⟨w1, gw⟩ := box1 hww
          obtain ⟨⟨p0, p1, p2, p3⟩, gp0, gp1, gp2, gp3⟩ := box4 hpp
          have hp5 := hpp.set 0 (.string (bA wd))
          simp only [List.setIfInBounds_toArray, List.set_cons_zero] at hp5
          have hw5 := (hww.setCell (a := ⟨bp, 0, none⟩) (by simpa using hne.out.2.1) (.string (bA wd)))
          have hn5 := (hnn.setCell (a := ⟨bp, 0, none⟩) (by simpa using hne.out.1) (.string (bA wd)))
          obtain ⟨n5, gn5⟩ := box1 hn5
          obtain ⟨w5', gw5⟩ := box1 hw5
          have HZ := Lib.hid hz
          by_cases hz1 : z = []
          · subst hz1
            have eb : bA [] = ({ data := #[] } : ByteArray) := rfl
            rw [eb]
            have hall : Hid (stepW 0 wd P = some { P with a := wd }) := Lib.hid (by rw [HS.out, if_pos (HZ.out.1 rfl)])
            clear hz eb HS hk5
            gi_wp2
            have hn6 := hn5.set 0 (.int .i64 1)
            simp only [List.setIfInBounds_toArray, List.set_cons_zero] at hn6
            exact ⟨hK5.trans ((KeepsOthers.setCell _ _ _).trans (KeepsOthers.setCell _ _ _)), hK9.t ((Kp9.set hpp (by decide) _ _).t (Kp9.set hn5 (by decide) _ _)), HI.out { P with a := wd } v _ hall.out (hp5.setCell (by simpa using hne.out.1.symm) _) ((hlr.set (by omega) _ _).set (by omega) _ _) (by show P.L.length ≤ _; omega) hn6 (hw5.setCell (by simpa using hne.out.2.2.2.1) _) ((hzz.setCell (by simpa using hne.out.2.2.1) _).setCell (by simpa using hne.out.2.2.2.2.1) _) (by rw [size_set, size_set]; exact hsz) ((hBW.setCell (p := ⟨bp, 0, none⟩) (by simp; omega) _).setCell (p := ⟨bn, 0, none⟩) (by simp; omega) _)⟩
          · have s1 : ((bA z).toList == []) = false := by rw [bA_list, beq_eq_false_iff_ne]; exact hz1
            have s2 : (bA z).toList ≠ [] := by rw [bA_list]; exact hz1
            have hall : Hid (stepW 0 wd P = none) := Lib.hid (by rw [HS.out, if_neg (fun q => hz1 (HZ.out.2 q))])
            have hw6 := hw5.set 0 (.int .i64 k)
            simp only [List.setIfInBounds_toArray, List.set_cons_zero] at hw6
            clear hz HS hk5 hz1
            gi_wp2
            exact ⟨hK5.trans ((KeepsOthers.setCell _ _ _).trans (KeepsOthers.setCell _ _ _)), HX.out _ hall.out (hn5.setCell (by simpa using hne.out.2.2.2.1.symm) _) hw6 ((hzz.setCell (by simpa using hne.out.2.2.1) _).setCell (by simpa using hne.out.2.2.2.2.2) _) ((hBW.setCell (p := ⟨bp, 0, none⟩) (by simp; omega) _).setCell (p := ⟨bw, 0, none⟩) (by simp; omega) _)⟩
    | 1 =>
      have e0 : (((1 : Nat) : Int)) = 1 := rfl
      rw [e0] at hnn n1 HI HX
      have hmW := hm.below hBW
      by_cases hd : wd = [45]
      · have hs0 : stepW 1 wd P = some P := by unfold stepW; rw [if_neg (by decide), if_pos rfl, if_pos hd]
        subst hd
        have eb : bA [45] = ({ data := #[45] } : ByteArray) := rfl
        rw [eb]
        have HS := Lib.hid hs0
        clear hs0 eb hm hmW
        gi_wp2
        have hn5 := hnn.set 0 (.int .i64 2)
        simp only [List.setIfInBounds_toArray, List.set_cons_zero] at hn5
        exact ⟨KeepsOthers.setCell _ _ _, Kp9.set hnn (by decide) _ _, HI.out P v _ HS.out (hpp.setCell (by simpa using hne.out.1.symm) _) (hlr.set (by omega) _ _) (by omega) hn5 (hww.setCell (by simpa using hne.out.2.2.2.1) _) (hzz.setCell (by simpa using hne.out.2.2.2.2.1) _) (by rw [size_set]; exact hsz) (hBW.setCell (p := ⟨bn, 0, none⟩) (by simp; omega) _)⟩
      · have q1 : ((bA wd).toList == [45]) = false := by rw [bA_list, beq_eq_false_iff_ne]; exact hd
        have q2 : (bA wd).toList ≠ [45] := by rw [bA_list]; exact hd
        have hp5 := hpp.set 1 (.string (bA wd))
        simp only [List.setIfInBounds_toArray, List.set_cons_zero, List.set_cons_succ] at hp5
        have hw5 := (hww.setCell (a := ⟨bp, 1, none⟩) (by simpa using hne.out.2.1) (.string (bA wd)))
        have hn5 := (hnn.setCell (a := ⟨bp, 1, none⟩) (by simpa using hne.out.1) (.string (bA wd)))
        have hz5 := (hzz.setCell (a := ⟨bp, 1, none⟩) (by simpa using hne.out.2.2.1) (.string (bA wd)))
        have hb5 := hBW.setCell (p := ⟨bp, 1, none⟩) (by simp; omega) (.string (bA wd))
        have hl5 := hlr.set (b := bp) (by omega) 1 (.string (bA wd))
        obtain ⟨n5, gn5⟩ := box1 hn5
        obtain ⟨w5', gw5⟩ := box1 hw5
        have hw6 := hw5.set 0 (.int .i64 k)
        simp only [List.setIfInBounds_toArray, List.set_cons_zero] at hw6
        have hn6 := hn5.set 0 (.int .i64 2)
        simp only [List.setIfInBounds_toArray, List.set_cons_zero] at hn6
        have hsw : (bA wd).size = wd.length := bA_size wd
        by_cases h1 : wd.length = 1
        · obtain ⟨b, rfl⟩ := List.length_eq_one_iff.1 h1
          have cC := contains_w b W hmW
          have HS : Hid (stepW 1 [b] P = if evB b = true then some { P with e := [b] } else none) := Lib.hid (by
            unfold stepW
            rw [if_neg (by decide), if_pos rfl, if_neg hd]
            simp)
          have hsw1 : (bA [b]).size = 1 := rfl
          clear hm hmW hd hsw h1
          gi_wp2_with fail
          refine ⟨trivial, ?_⟩
          gi_at_call 72
          refine (CallsIn.inRound l' (callsIn_wide.2 cC)).mono ?_
          rintro e w5 ⟨rfl, rfl⟩
          clear cC
          cases hev : evB b with
          | true =>
            have HS2 : Hid (stepW 1 [b] P = some { P with e := [b] }) := Lib.hid (by rw [HS.out, hev]; rfl)
            clear HS hev
            gi_wp2
            exact ⟨(KeepsOthers.setCell _ _ _).trans (KeepsOthers.setCell _ _ _), (Kp9.set hpp (by decide) _ _).t (Kp9.set hn5 (by decide) _ _), HI.out { P with e := [b] } v _ HS2.out (hp5.setCell (by simpa using hne.out.1.symm) _) (hl5.set (by omega) _ _) (by show P.L.length ≤ _; omega) hn6 (hw5.setCell (by simpa using hne.out.2.2.2.1) _) (hz5.setCell (by simpa using hne.out.2.2.2.2.1) _) (by rw [size_set, size_set]; exact hsz) (hb5.setCell (p := ⟨bn, 0, none⟩) (by simp; omega) _)⟩
          | false =>
            have HS2 : Hid (stepW 1 [b] P = none) := Lib.hid (by rw [HS.out, hev]; rfl)
            clear HS hev
            gi_wp2
            exact ⟨(KeepsOthers.setCell _ _ _).trans (KeepsOthers.setCell _ _ _), HX.out _ HS2.out (hn5.setCell (by simpa using hne.out.2.2.2.1.symm) _) hw6 (hz5.setCell (by simpa using hne.out.2.2.2.2.2) _) (hb5.setCell (p := ⟨bw, 0, none⟩) (by simp; omega) _)⟩
        · have HS2 : Hid (stepW 1 wd P = none) := Lib.hid (by
            unfold stepW
            rw [if_neg (by decide), if_pos rfl, if_neg hd, if_neg (fun q => h1 q.1)])
          have h1' : ((wd.length : Int) == 1) = false := by rw [beq_eq_false_iff_ne]; omega
          clear hm hmW hd h1
          gi_wp2_with fail
          refine ⟨trivial, ?_⟩
          gi_wp2
          exact ⟨(KeepsOthers.setCell _ _ _).trans (KeepsOthers.setCell _ _ _), HX.out _ HS2.out (hn5.setCell (by simpa using hne.out.2.2.2.1.symm) _) hw6 (hz5.setCell (by simpa using hne.out.2.2.2.2.2) _) (hb5.setCell (p := ⟨bw, 0, none⟩) (by simp; omega) _)⟩
    | N + 2 =>
      obtain ⟨M, hM⟩ : ∃ M, N + 2 = M := ⟨_, rfl⟩
      rw [hM] at hnn n1 hPl HI HX hlen'
      have m2 : 2 ≤ M := by omega
      have t0 : ((M : Int) == 0) = false := by rw [beq_eq_false_iff_ne]; omega
      have t1 : ((M : Int) == 1) = false := by rw [beq_eq_false_iff_ne]; omega
      by_cases hlate : M = 2 ∧ wd = [108, 97, 116, 101]
      · obtain ⟨rfl, rfl⟩ := hlate
        have hs0 : stepW 2 [108, 97, 116, 101] P = some { P with lx := true } := by
          unfold stepW
          rw [if_neg (by decide), if_neg (by decide), if_pos ⟨rfl, rfl⟩]
        have HS := Lib.hid hs0
        have eb : bA [108, 97, 116, 101] = ({ data := #[108, 97, 116, 101] } : ByteArray) := rfl
        rw [eb]
        have hp5 := hpp.set 2 (.bool true)
        simp only [List.setIfInBounds_toArray, List.set_cons_zero, List.set_cons_succ] at hp5
        have hw5 := (hww.setCell (a := ⟨bp, 2, none⟩) (by simpa using hne.out.2.1) (.bool true))
        have hn5 := (hnn.setCell (a := ⟨bp, 2, none⟩) (by simpa using hne.out.1) (.bool true))
        have hz5 := (hzz.setCell (a := ⟨bp, 2, none⟩) (by simpa using hne.out.2.2.1) (.bool true))
        have hb5 := hBW.setCell (p := ⟨bp, 2, none⟩) (by simp; omega) (.bool true)
        have hl5 := hlr.set (b := bp) (by omega) 2 (.bool true)
        obtain ⟨n5, gn5⟩ := box1 hn5
        have hn6 := hn5.set 0 (.int .i64 3)
        simp only [List.setIfInBounds_toArray, List.set_cons_zero] at hn6
        clear hm hs0 eb
        have e2 : (((2 : Nat) : Int)) = 2 := rfl
        rw [e2] at n1 n5
        gi_wp2
        exact ⟨(KeepsOthers.setCell _ _ _).trans (KeepsOthers.setCell _ _ _), (Kp9.set hpp (by decide) _ _).t (Kp9.set hn5 (by decide) _ _), HI.out { P with lx := true } v _ HS.out (hp5.setCell (by simpa using hne.out.1.symm) _) (hl5.set (by omega) _ _) (by show P.L.length ≤ _; omega) hn6 (hw5.setCell (by simpa using hne.out.2.2.2.1) _) (hz5.setCell (by simpa using hne.out.2.2.2.2.1) _) (by rw [size_set, size_set]; exact hsz) (hb5.setCell (p := ⟨bn, 0, none⟩) (by simp; omega) _)⟩
      · have HS : Hid (stepW M wd P = if pmOk wd = true then some { P with L := P.L ++ [pmM wd] } else none) := Lib.hid (by
          unfold stepW
          rw [if_neg (by omega), if_neg (by omega), if_neg hlate])
        have t2 : (((M : Int) == 2) = false ∧ 1 = 1) ∨ (((M : Int) == 2) = true ∧ ((bA wd).toList == [108, 97, 116, 101]) = false ∧ (bA wd).toList ≠ [108, 97, 116, 101]) := by
          by_cases q : M = 2
          · right
            have q' : wd ≠ [108, 97, 116, 101] := fun e => hlate ⟨q, e⟩
            exact ⟨by rw [beq_iff_eq]; omega, by rw [bA_list, beq_eq_false_iff_ne]; exact q', by rw [bA_list]; exact q'⟩
          · left
            exact ⟨by rw [beq_eq_false_iff_ne]; omega, rfl⟩
        have m1 : 1 < (M : Int) := by omega
        have hal := (Below.refl W.heap.size W).alloc (Nat.le_refl _) (.cells #[.int .i64 0, .int .i64 0, .bool false, .string ⟨#[]⟩, .slice none 0 0] 27)
        have hN := at_new W #[.int .i64 0, .int .i64 0, .bool false, .string ⟨#[]⟩, .slice none 0 0] 27
        have cP := parseMove_w wd (by omega) (W.alloc (.cells #[.int .i64 0, .int .i64 0, .bool false, .string ⟨#[]⟩, .slice none 0 0] 27))
        clear hm hlate hM
        rcases t2 with ⟨t2, -⟩ | ⟨t2, t3, t4⟩
        · gi_wp2_with fail
          refine ⟨trivial, ?_⟩
          gi_at_call 87
          refine (CallsIn.inRound l' (callsIn_wide.2 cP)).mono ?_
          rintro e w5 ⟨⟨c, rfl, hown⟩, hk5⟩
          have hk := hal.trans (hk5.mono hal.size)
          have hsW := hsz
          have hpp := hpp.below hk hpp.lt
          have hnn := hnn.below hk hnn.lt
          have hww := hww.below hk hww.lt
          have hzz := hzz.below hk hzz.lt
          have hNe : v.ownBlock ≠ some W.heap.size := fun q => by have := (hlr.lt _ q).2; omega
          have hlr := hlr.below hk
          have hwW := hBW.size
          have hBW := hBW.trans (hk.mono hBW.size)
          have hsz := Nat.le_trans hsz hk.size
          have hK5 := keeps_below hk
          have hK9 := Kp9.below hk
          have hN := hN.below hk5 hN.lt
          obtain ⟨f1, f2, xb, s, a5, k5, c5⟩ := c
          dsimp only at hown ⊢
          clear cP hal hk hk5 n1 gn w1 gw p0 p1 p2 p3 gp0 gp1 gp2 gp3
          obtain ⟨⟨e0, e1, e2, e3, e4⟩, ge0, ge1, ge2, ge3, ge4⟩ := box5 hN
          have hN5 := hN.put5 (.int .i64 f1) (.int .i64 f2) (.bool xb) (.string s) (.slice a5 k5 c5)
          have hlr := hlr.set5M hN hNe (.int .i64 f1) (.int .i64 f2) (.bool xb) (.string s) (.slice a5 k5 c5)
          have hpp := At.put5q hpp (show bp ≠ W.heap.size by omega) (.int .i64 f1) (.int .i64 f2) (.bool xb) (.string s) (.slice a5 k5 c5)
          have hnn := At.put5q hnn (show bn ≠ W.heap.size by omega) (.int .i64 f1) (.int .i64 f2) (.bool xb) (.string s) (.slice a5 k5 c5)
          have hww := At.put5q hww (show bw ≠ W.heap.size by omega) (.int .i64 f1) (.int .i64 f2) (.bool xb) (.string s) (.slice a5 k5 c5)
          have hzz := At.put5q hzz (show w.heap.size ≠ W.heap.size by omega) (.int .i64 f1) (.int .i64 f2) (.bool xb) (.string s) (.slice a5 k5 c5)
          have hown := fun h => ((hown h).set5M hN (.int .i64 f1) (.int .i64 f2) (.bool xb) (.string s) (.slice a5 k5 c5)).le (Nat.le_trans hsW (show W.heap.size ≤ (W.alloc (.cells #[.int .i64 0, .int .i64 0, .bool false, .string ⟨#[]⟩, .slice none 0 0] 27)).heap.size by simp))
          have hBW := below_put5 hBW (show w.heap.size ≤ W.heap.size by omega) (.int .i64 f1) (.int .i64 f2) (.bool xb) (.string s) (.slice a5 k5 c5)
          have hK5 := hK5.trans (keeps_set5 w5 W.heap.size (.int .i64 f1) (.int .i64 f2) (.bool xb) (.string s) (.slice a5 k5 c5))
          have hK9 := hK9.t (kp9_set5 hN (by decide) (.int .i64 f1) (.int .i64 f2) (.bool xb) (.string s) (.slice a5 k5 c5))
          have hsz : W0.heap.size ≤ (put5 w5 W.heap.size (.int .i64 f1) (.int .i64 f2) (.bool xb) (.string s) (.slice a5 k5 c5)).heap.size := by rw [size_set5]; exact hsz
          clear hN
          gi_wp2_with (first
            | (with_reducible refine halt_in ?_)
            | fail)
          unfold Halt
          obtain ⟨W5, hW5⟩ : ∃ X : World, put5 w5 W.heap.size (.int .i64 f1) (.int .i64 f2) (.bool xb) (.string s) (.slice a5 k5 c5) = X := ⟨_, rfl⟩
          rw [hW5] at hN5 hlr hpp hnn hww hzz hown hBW hK5 hK9 hsz
          unfold put5 at hW5
          rw [hW5]
          clear hW5 e0 e1 e2 e3 e4 ge0 ge1 ge2 ge3 ge4 hNe
          obtain ⟨⟨x0, x1, x2, x3, x4⟩, -⟩ := box5 hN5
          obtain ⟨⟨p0, p1, p2, p3⟩, gp0, gp1, gp2, gp3⟩ := box4 hpp
          have hal2 := (Below.refl W5.heap.size W5).alloc (Nat.le_refl _) (.cells #[.int .i64 f1, .int .i64 f2, .bool xb, .string s, .slice a5 k5 c5] 27)
          have hlrA := hlr.below hal2
          have hW5 := hpp.lt
          gi_wp2_with (first
            | (with_reducible refine haltM_in ?_)
            | fail)
          unfold Halt
          refine wpListIn_sliceM _ rfl _ rfl f1 f2 xb s a5 k5 c5 rfl ?_
          refine wpListIn_appendM _ rfl _ _ rfl W0.heap.size W5.heap.size P.L _ rfl 1 rfl hlrA ?c1 ⟨f1, f2, xb, s, a5, k5, c5⟩ (at_new _ _ _) ?c2 ?_
          case c1 => omega
          case c2 => simp; omega
          intro a9 k9 c9 w9 hA
          have hppA : At w9 bp #[.string (bA P.a), .string (bA P.e), .bool P.lx, v] 24 := (hA.old _ (by omega) (by simp; omega)).trans (hpp.alloc _)
          have hnnA : At w9 bn #[.int .i64 (M : Int)] 3 := (hA.old _ (by omega) (by simp; omega)).trans (hnn.alloc _)
          have hwwA : At w9 bw #[.int .i64 (-1)] 3 := (hA.old _ (by omega) (by simp; omega)).trans (hww.alloc _)
          have hzzA : At w9 w.heap.size #[.string ⟨#[]⟩, .string ⟨#[]⟩, .bool false, .slice none 0 0] 24 := (hA.old _ (by omega) (by simp; omega)).trans (hzz.alloc _)
          have hBWA : Below w.heap.size w w9 := hA.below w (hBW.alloc (by omega) _) (by omega)
          have hszA : W0.heap.size ≤ w9.heap.size := Nat.le_trans hsz (Nat.le_trans hal2.size hA.size)
          have hrowA := fun h => hA.row _ ((hown h).below hal2)
          have hKA : KeepsOthers W w9 := (hK5.trans (keeps_below hal2)).trans (by obtain ⟨k, xs, ho, hg⟩ := hA.grown; exact keeps_grown hg ho)
          have hKB : Kp9 W w9 := (hK9.t (Kp9.below hal2)).t (by obtain ⟨k, xs, ho, hg⟩ := hA.grown; exact Kp9.grown hg ho)
          clear hN5 hlr hpp hnn hww hzz hown hBW hsz hal2 hlrA hA p0 p1 p2 p3 gp0 gp1 gp2 gp3 x0 x1 x2 x3 x4 hK5 hK9 hW5 hsW
          obtain ⟨⟨p0, p1, p2, p3⟩, gp0, gp1, gp2, gp3⟩ := box4 hppA
          have hp5 := hppA.set 3 (.slice a9 k9 c9)
          simp only [List.setIfInBounds_toArray, List.set_cons_zero, List.set_cons_succ] at hp5
          have hw5 := (hwwA.setCell (a := ⟨bp, 3, none⟩) (by simpa using hne.out.2.1) (.slice a9 k9 c9))
          have hn5 := (hnnA.setCell (a := ⟨bp, 3, none⟩) (by simpa using hne.out.1) (.slice a9 k9 c9))
          have hz5 := (hzzA.setCell (a := ⟨bp, 3, none⟩) (by simpa using hne.out.2.2.1) (.slice a9 k9 c9))
          have hb5 := hBWA.setCell (p := ⟨bp, 3, none⟩) (by simp; omega) (.slice a9 k9 c9)
          have hl5 := fun h => (hrowA h).set (b := bp) (by omega) 3 (.slice a9 k9 c9)
          obtain ⟨n5, gn5⟩ := box1 hn5
          obtain ⟨w5', gw5⟩ := box1 hw5
          cases hok : pmOk wd with
          | true =>
            have HS2 : Hid (stepW M wd P = some { P with L := P.L ++ [pmM wd] }) := Lib.hid (by rw [HS.out, if_pos hok])
            have hl6 := hl5 hok
            have hn6 := hn5.set 0 (.int .i64 ((M : Int) + 1))
            simp only [List.setIfInBounds_toArray, List.set_cons_zero] at hn6
            clear HS hok hl5 HX
            gi_wp2
            exact ⟨(hKA.trans (KeepsOthers.setCell _ _ _)).trans (KeepsOthers.setCell _ _ _), (hKB.t (Kp9.set hppA (by decide) _ _)).t (Kp9.set hn5 (by decide) _ _), HI.out { P with L := P.L ++ [pmM wd] } _ _ HS2.out (hp5.setCell (by simpa using hne.out.1.symm) _) (hl6.set (by omega) _ _) (by show (P.L ++ [pmM wd]).length ≤ _; rw [List.length_append]; simp; omega) hn6 (hw5.setCell (by simpa using hne.out.2.2.2.1) _) (hz5.setCell (by simpa using hne.out.2.2.2.2.1) _) (by rw [size_set, size_set]; exact hszA) (hb5.setCell (p := ⟨bn, 0, none⟩) (by simp; omega) _)⟩
          | false =>
            have HS2 : Hid (stepW M wd P = none) := Lib.hid (by rw [HS.out, hok]; rfl)
            have hw6 := hw5.set 0 (.int .i64 k)
            simp only [List.setIfInBounds_toArray, List.set_cons_zero] at hw6
            clear HS hok hl5 HI
            gi_wp2
            exact ⟨(hKA.trans (KeepsOthers.setCell _ _ _)).trans (KeepsOthers.setCell _ _ _), HX.out _ HS2.out (hn5.setCell (by simpa using hne.out.2.2.2.1.symm) _) hw6 (hz5.setCell (by simpa using hne.out.2.2.2.2.2) _) (hb5.setCell (p := ⟨bw, 0, none⟩) (by simp; omega) _)⟩
        · gi_wp2_with fail
          refine ⟨trivial, ?_⟩
          gi_at_call 87
          refine (CallsIn.inRound l' (callsIn_wide.2 cP)).mono ?_
          rintro e w5 ⟨⟨c, rfl, hown⟩, hk5⟩
          have hk := hal.trans (hk5.mono hal.size)
          have hsW := hsz
          have hpp := hpp.below hk hpp.lt
          have hnn := hnn.below hk hnn.lt
          have hww := hww.below hk hww.lt
          have hzz := hzz.below hk hzz.lt
          have hNe : v.ownBlock ≠ some W.heap.size := fun q => by have := (hlr.lt _ q).2; omega
          have hlr := hlr.below hk
          have hwW := hBW.size
          have hBW := hBW.trans (hk.mono hBW.size)
          have hsz := Nat.le_trans hsz hk.size
          have hK5 := keeps_below hk
          have hK9 := Kp9.below hk
          have hN := hN.below hk5 hN.lt
          obtain ⟨f1, f2, xb, s, a5, k5, c5⟩ := c
          dsimp only at hown ⊢
          clear cP hal hk hk5 n1 gn w1 gw p0 p1 p2 p3 gp0 gp1 gp2 gp3
          obtain ⟨⟨e0, e1, e2, e3, e4⟩, ge0, ge1, ge2, ge3, ge4⟩ := box5 hN
          have hN5 := hN.put5 (.int .i64 f1) (.int .i64 f2) (.bool xb) (.string s) (.slice a5 k5 c5)
          have hlr := hlr.set5M hN hNe (.int .i64 f1) (.int .i64 f2) (.bool xb) (.string s) (.slice a5 k5 c5)
          have hpp := At.put5q hpp (show bp ≠ W.heap.size by omega) (.int .i64 f1) (.int .i64 f2) (.bool xb) (.string s) (.slice a5 k5 c5)
          have hnn := At.put5q hnn (show bn ≠ W.heap.size by omega) (.int .i64 f1) (.int .i64 f2) (.bool xb) (.string s) (.slice a5 k5 c5)
          have hww := At.put5q hww (show bw ≠ W.heap.size by omega) (.int .i64 f1) (.int .i64 f2) (.bool xb) (.string s) (.slice a5 k5 c5)
          have hzz := At.put5q hzz (show w.heap.size ≠ W.heap.size by omega) (.int .i64 f1) (.int .i64 f2) (.bool xb) (.string s) (.slice a5 k5 c5)
          have hown := fun h => ((hown h).set5M hN (.int .i64 f1) (.int .i64 f2) (.bool xb) (.string s) (.slice a5 k5 c5)).le (Nat.le_trans hsW (show W.heap.size ≤ (W.alloc (.cells #[.int .i64 0, .int .i64 0, .bool false, .string ⟨#[]⟩, .slice none 0 0] 27)).heap.size by simp))
          have hBW := below_put5 hBW (show w.heap.size ≤ W.heap.size by omega) (.int .i64 f1) (.int .i64 f2) (.bool xb) (.string s) (.slice a5 k5 c5)
          have hK5 := hK5.trans (keeps_set5 w5 W.heap.size (.int .i64 f1) (.int .i64 f2) (.bool xb) (.string s) (.slice a5 k5 c5))
          have hK9 := hK9.t (kp9_set5 hN (by decide) (.int .i64 f1) (.int .i64 f2) (.bool xb) (.string s) (.slice a5 k5 c5))
          have hsz : W0.heap.size ≤ (put5 w5 W.heap.size (.int .i64 f1) (.int .i64 f2) (.bool xb) (.string s) (.slice a5 k5 c5)).heap.size := by rw [size_set5]; exact hsz
          clear hN
          gi_wp2_with (first
            | (with_reducible refine halt_in ?_)
            | fail)
          unfold Halt
          obtain ⟨W5, hW5⟩ : ∃ X : World, put5 w5 W.heap.size (.int .i64 f1) (.int .i64 f2) (.bool xb) (.string s) (.slice a5 k5 c5) = X := ⟨_, rfl⟩
          rw [hW5] at hN5 hlr hpp hnn hww hzz hown hBW hK5 hK9 hsz
          unfold put5 at hW5
          rw [hW5]
          clear hW5 e0 e1 e2 e3 e4 ge0 ge1 ge2 ge3 ge4 hNe
          obtain ⟨⟨x0, x1, x2, x3, x4⟩, -⟩ := box5 hN5
          obtain ⟨⟨p0, p1, p2, p3⟩, gp0, gp1, gp2, gp3⟩ := box4 hpp
          have hal2 := (Below.refl W5.heap.size W5).alloc (Nat.le_refl _) (.cells #[.int .i64 f1, .int .i64 f2, .bool xb, .string s, .slice a5 k5 c5] 27)
          have hlrA := hlr.below hal2
          have hW5 := hpp.lt
          gi_wp2_with (first
            | (with_reducible refine haltM_in ?_)
            | fail)
          unfold Halt
          refine wpListIn_sliceM _ rfl _ rfl f1 f2 xb s a5 k5 c5 rfl ?_
          refine wpListIn_appendM _ rfl _ _ rfl W0.heap.size W5.heap.size P.L _ rfl 1 rfl hlrA ?c1 ⟨f1, f2, xb, s, a5, k5, c5⟩ (at_new _ _ _) ?c2 ?_
          case c1 => omega
          case c2 => simp; omega
          intro a9 k9 c9 w9 hA
          have hppA : At w9 bp #[.string (bA P.a), .string (bA P.e), .bool P.lx, v] 24 := (hA.old _ (by omega) (by simp; omega)).trans (hpp.alloc _)
          have hnnA : At w9 bn #[.int .i64 (M : Int)] 3 := (hA.old _ (by omega) (by simp; omega)).trans (hnn.alloc _)
          have hwwA : At w9 bw #[.int .i64 (-1)] 3 := (hA.old _ (by omega) (by simp; omega)).trans (hww.alloc _)
          have hzzA : At w9 w.heap.size #[.string ⟨#[]⟩, .string ⟨#[]⟩, .bool false, .slice none 0 0] 24 := (hA.old _ (by omega) (by simp; omega)).trans (hzz.alloc _)
          have hBWA : Below w.heap.size w w9 := hA.below w (hBW.alloc (by omega) _) (by omega)
          have hszA : W0.heap.size ≤ w9.heap.size := Nat.le_trans hsz (Nat.le_trans hal2.size hA.size)
          have hrowA := fun h => hA.row _ ((hown h).below hal2)
          have hKA : KeepsOthers W w9 := (hK5.trans (keeps_below hal2)).trans (by obtain ⟨k, xs, ho, hg⟩ := hA.grown; exact keeps_grown hg ho)
          have hKB : Kp9 W w9 := (hK9.t (Kp9.below hal2)).t (by obtain ⟨k, xs, ho, hg⟩ := hA.grown; exact Kp9.grown hg ho)
          clear hN5 hlr hpp hnn hww hzz hown hBW hsz hal2 hlrA hA p0 p1 p2 p3 gp0 gp1 gp2 gp3 x0 x1 x2 x3 x4 hK5 hK9 hW5 hsW
          obtain ⟨⟨p0, p1, p2, p3⟩, gp0, gp1, gp2, gp3⟩ := box4 hppA
          have hp5 := hppA.set 3 (.slice a9 k9 c9)
          simp only [List.setIfInBounds_toArray, List.set_cons_zero, List.set_cons_succ] at hp5
          have hw5 := (hwwA.setCell (a := ⟨bp, 3, none⟩) (by simpa using hne.out.2.1) (.slice a9 k9 c9))
          have hn5 := (hnnA.setCell (a := ⟨bp, 3, none⟩) (by simpa using hne.out.1) (.slice a9 k9 c9))
          have hz5 := (hzzA.setCell (a := ⟨bp, 3, none⟩) (by simpa using hne.out.2.2.1) (.slice a9 k9 c9))
          have hb5 := hBWA.setCell (p := ⟨bp, 3, none⟩) (by simp; omega) (.slice a9 k9 c9)
          have hl5 := fun h => (hrowA h).set (b := bp) (by omega) 3 (.slice a9 k9 c9)
          obtain ⟨n5, gn5⟩ := box1 hn5
          obtain ⟨w5', gw5⟩ := box1 hw5
          cases hok : pmOk wd with
          | true =>
            have HS2 : Hid (stepW M wd P = some { P with L := P.L ++ [pmM wd] }) := Lib.hid (by rw [HS.out, if_pos hok])
            have hl6 := hl5 hok
            have hn6 := hn5.set 0 (.int .i64 ((M : Int) + 1))
            simp only [List.setIfInBounds_toArray, List.set_cons_zero] at hn6
            clear HS hok hl5 HX
            gi_wp2
            exact ⟨(hKA.trans (KeepsOthers.setCell _ _ _)).trans (KeepsOthers.setCell _ _ _), (hKB.t (Kp9.set hppA (by decide) _ _)).t (Kp9.set hn5 (by decide) _ _), HI.out { P with L := P.L ++ [pmM wd] } _ _ HS2.out (hp5.setCell (by simpa using hne.out.1.symm) _) (hl6.set (by omega) _ _) (by show (P.L ++ [pmM wd]).length ≤ _; rw [List.length_append]; simp; omega) hn6 (hw5.setCell (by simpa using hne.out.2.2.2.1) _) (hz5.setCell (by simpa using hne.out.2.2.2.2.1) _) (by rw [size_set, size_set]; exact hszA) (hb5.setCell (p := ⟨bn, 0, none⟩) (by simp; omega) _)⟩
          | false =>
            have HS2 : Hid (stepW M wd P = none) := Lib.hid (by rw [HS.out, hok]; rfl)
            have hw6 := hw5.set 0 (.int .i64 k)
            simp only [List.setIfInBounds_toArray, List.set_cons_zero] at hw6
            clear HS hok hl5 HI
            gi_wp2
            exact ⟨(hKA.trans (KeepsOthers.setCell _ _ _)).trans (KeepsOthers.setCell _ _ _), HX.out _ HS2.out (hn5.setCell (by simpa using hne.out.2.2.2.1.symm) _) hw6 (hz5.setCell (by simpa using hne.out.2.2.2.2.2) _) (hb5.setCell (p := ⟨bw, 0, none⟩) (by simp; omega) _)⟩
  case done =>
    intro D xs W hD hS hI hKd
    as_aux_lemma =>
      obtain ⟨⟨P, v, hacc, hpp, hlr, -, hnn, hww, hzz, hsz⟩, hBW⟩ := hI
      subst hS
      rw [wds_all hl] at hacc
      rw [withAt_len] at hnn
      obtain ⟨w1, g1⟩ := box1 hww
      obtain ⟨n1, -⟩ := box1 hnn
      obtain ⟨⟨z0, z1, z2, z3⟩, f0, f1, f2, f3⟩ := box4 hzz
      have ne1 : bw ≠ w.heap.size := by omega
      have hDw : w.heap.size ≠ D := by omega
      by_cases h2 : (spl 32 l).length < 2
      · have HR : Hid (parL l = ⟨zeroP, l.length, 25⟩) := Lib.hid (parL_few (by omega) hacc h2)
        have h2' : (((spl 32 l).length : Nat) : Int) < 2 := by omega
        generalize (spl 32 l).length = K at n1 h2' hnn h2
        have hl0 : (0 : Int) ≤ (l.length : Int) := by omega
        have hw5 := hww.set 0 (.int .i64 (l.length : Int))
        simp only [List.setIfInBounds_toArray, List.set_cons_zero] at hw5
        obtain ⟨w5, g5⟩ := box1 hw5
        have hz5 := hzz.setCell (a := ⟨bw, 0, none⟩) (by simp; omega) (.int .i64 (l.length : Int))
        obtain ⟨⟨y0, y1, y2, y3⟩, k0, k1, k2, k3⟩ := box4 hz5
        have hB5 := hBW.setCell (p := ⟨bw, 0, none⟩) (by simp; omega) (.int .i64 (l.length : Int))
        have hD5 := (KeepsOthers.setCell W ⟨bw, 0, none⟩ (.int .i64 (l.length : Int)))
        clear h0 hmW hsW hLB hk' hk hacc hL hm h2 hpp hlr hww hnn
        gi_wp2
        refine wpIn_wide.2 ?_
        go_region
        have hD4 := hD5.trans (((((KeepsOthers.setCell _ ⟨w.heap.size, 0, none⟩ (.string ⟨#[]⟩)).trans (KeepsOthers.setCell _ ⟨w.heap.size, 1, none⟩ (.string ⟨#[]⟩))).trans (KeepsOthers.setCell _ ⟨w.heap.size, 2, none⟩ (.bool false))).trans (KeepsOthers.setCell _ ⟨w.heap.size, 3, none⟩ (.slice none 0 0))).trans (KeepsOthers.drew _))
        have hK4 := hD4.same D _ hKd rfl
        gi_wp2
        rw [Exit.noGoto_ret]
        refine ⟨by simp, .inl ⟨_, _, rfl, run_takeDeferred hK4, ?_⟩⟩
        have hz4 := ((hz5.set4 (.string ⟨#[]⟩) (.string ⟨#[]⟩) (.bool false) (.slice none 0 0)).drew).put hDw (.deferred none)
        refine ⟨.tuple #[.agg #[.string ⟨#[]⟩, .string ⟨#[]⟩, .bool false, .slice none 0 0], .int .i64 (l.length : Int), .int .i64 25], res_play f22 rfl rfl hz4 rfl rfl, ?_⟩
        rw [HR.out]
        exact ⟨⟨_, rfl, zero_own _ _⟩, (below_set4 hB5 (Nat.le_refl _) _ _ _ _).drew.trans (belowK_b (w := w) (Nat.le_refl _) _ D _ _ (by have := hB.size; omega) hK4 rfl rfl)⟩
      · have h2' : ¬ (((spl 32 l).length : Nat) : Int) < 2 := by omega
        have HA := Lib.hid hacc
        have hmv := hlr.row
        obtain ⟨av, kv, cv, rfl⟩ := hlr.slice
        obtain rfl := hlr.count
        have hch := chk_b (w := W) P.lx (hL.below hBW) (isStr_bA P.a) (isStr_bA P.e) hmv
        have cC := hch W (Below.refl _ _)
        obtain ⟨k, hkk⟩ : ∃ k, plP P = k := ⟨_, rfl⟩
        have cC : Calls prog 15 #[.agg #[.string (bA P.a), .string (bA P.e), .bool P.lx, .slice av P.L.length cv]] W fun e w' => e = .returned (.int .i64 k) ∧ Below W.heap.size W w' := by rw [← hkk]; exact cC
        obtain ⟨⟨p0, p1, p2, p3⟩, -⟩ := box4 hpp
        generalize hK2 : (spl 32 l).length = K at n1 h2' hnn h2
        clear h0 hmW hsW hLB hk' hk hacc hL hm hch
        gi_wp2_with fail
        refine ⟨trivial, ?_⟩
        gi_at_call 15
        refine (callsIn_wide.2 cC).mono ?_
        rintro e w5 ⟨rfl, hk5⟩
        have hz5 := hzz.below hk5 hzz.lt
        have hp5 := hpp.below hk5 hpp.lt
        have hB5 := hBW.trans (hk5.mono hBW.size)
        have hl5 := hlr.below hk5
        have hK5 := (keeps_below hk5).same D _ hKd rfl
        clear cC p0 p1 p2 p3 z0 z1 z2 z3 f0 f1 f2 f3 w1 g1 n1 hnn hww hzz hpp hlr hmv hKd hBW hk5
        obtain ⟨⟨z0, z1, z2, z3⟩, f0, f1, f2, f3⟩ := box4 hz5
        have hDs : ∀ v0 v1 v2 v3, ((((w5.setCell ⟨w.heap.size, 0, none⟩ v0).setCell ⟨w.heap.size, 1, none⟩ v1).setCell ⟨w.heap.size, 2, none⟩ v2).setCell ⟨w.heap.size, 3, none⟩ v3).heap[D]? = some (.deferred (some [])) := fun v0 v1 v2 v3 =>
          ((((KeepsOthers.setCell w5 ⟨w.heap.size, 0, none⟩ v0).trans (KeepsOthers.setCell _ ⟨w.heap.size, 1, none⟩ v1)).trans (KeepsOthers.setCell _ ⟨w.heap.size, 2, none⟩ v2)).trans (KeepsOthers.setCell _ ⟨w.heap.size, 3, none⟩ v3)).same D _ hK5 rfl
        have HDs := Lib.hid hDs
        clear hDs
        by_cases hk0 : k = 0
        · subst hk0
          have HR : Hid (parL l = ⟨pldOf P, 0, 0⟩) := Lib.hid (parL_ok (by omega) HA.out (by omega) hkk)
          obtain ⟨⟨p0, p1, p2, p3⟩, -⟩ := box4 hp5
          clear HA hkk hK2 h2 h2'
          gi_wp2
          rw [Exit.noGoto_ret]
          refine ⟨by simp, .inl ⟨_, _, rfl, run_takeDeferred (HDs.out _ _ _ _), ?_⟩⟩
          have hz6 := (hz5.set4 (.string (bA P.a)) (.string (bA P.e)) (.bool P.lx) (.slice av P.L.length cv))
          have hD6 := HDs.out (.string (bA P.a)) (.string (bA P.e)) (.bool P.lx) (.slice av P.L.length cv)
          have hw0 : w.heap.size < W0.heap.size := by omega
          have hl6 := (((hl5.set hw0 0 (.string (bA P.a))).set hw0 1 (.string (bA P.e))).set hw0 2 (.bool P.lx)).set hw0 3 (.slice av P.L.length cv)
          have hm7 := (hl6.putD hD6).own.mono (Nat.le_of_lt hw0)
          have hz7 := hz6.put hDw (.deferred none)
          refine ⟨.tuple #[.agg #[.string (bA P.a), .string (bA P.e), .bool P.lx, .slice av P.L.length cv], .int .i64 0, .int .i64 0], res_play f22 rfl rfl hz7 rfl rfl, ?_⟩
          rw [HR.out]
          exact ⟨⟨_, rfl, hm7⟩, (below_set4 hB5 (Nat.le_refl _) _ _ _ _).trans (belowK_b (w := w) (Nat.le_refl _) _ D _ _ (by have := hB.size; omega) hD6 rfl rfl)⟩
        · have HR : Hid (parL l = ⟨zeroP, l.length, k⟩) := Lib.hid (by rw [← hkk]; exact parL_chk (by omega) HA.out (by omega) (by rw [hkk]; exact hk0))
          have hk0' : (k != 0) = true := by simpa using hk0
          clear HA hkk hK2 h2 h2' hp5
          gi_wp2
          rw [Exit.noGoto_ret]
          refine ⟨by simp, .inl ⟨_, _, rfl, run_takeDeferred (HDs.out _ _ _ _), ?_⟩⟩
          have hz6 := (hz5.set4 (.string ⟨#[]⟩) (.string ⟨#[]⟩) (.bool false) (.slice none 0 0))
          have hD6 := HDs.out (.string ⟨#[]⟩) (.string ⟨#[]⟩) (.bool false) (.slice none 0 0)
          have hz7 := hz6.put hDw (.deferred none)
          refine ⟨.tuple #[.agg #[.string ⟨#[]⟩, .string ⟨#[]⟩, .bool false, .slice none 0 0], .int .i64 (l.length : Int), .int .i64 k], res_play f22 rfl rfl hz7 rfl rfl, ?_⟩
          rw [HR.out]
          exact ⟨⟨_, rfl, zero_own _ _⟩, (below_set4 hB5 (Nat.le_refl _) _ _ _ _).trans (belowK_b (w := w) (Nat.le_refl _) _ D _ _ (by have := hB.size; omega) hD6 rfl rfl)⟩
  case stop =>
    intro D c pre W hD hSp hX hKd
    as_aux_lemma =>
      obtain ⟨⟨rfl, pre0, x, P, rfl, hacc, hst, hnn, hww, hzz⟩, hBW⟩ := hX
      obtain ⟨t, ht⟩ := hSp
      obtain ⟨r, z, e1, e2, e3, e4, e5⟩ := withAt_parts hl ht
      rw [e2] at hacc
      rw [e4, e5] at hst
      have HR : Hid (parL l = ⟨zeroP, x.1, 25⟩) := Lib.hid (by rw [parL_stop (by omega) e1 hacc hst, e3])
      obtain ⟨w1, g1⟩ := box1 hww
      obtain ⟨n1, -⟩ := box1 hnn
      obtain ⟨⟨z0, z1, z2, z3⟩, f0, f1, f2, f3⟩ := box4 hzz
      have q0 : ¬ ((x.1 : Int) < 0) := by omega
      have q1 : (0 : Int) ≤ (x.1 : Int) := by omega
      have ne1 : bw ≠ w.heap.size := by omega
      have hDw : w.heap.size ≠ D := by omega
      clear h0 hmW hsW hLB hk' hk ht e1 e2 e3 e4 e5 hacc hst hL hm hs
      gi_wp2
      refine wpIn_wide.2 ?_
      go_region
      have hD4 := ((((KeepsOthers.setCell W ⟨w.heap.size, 0, none⟩ (.string ⟨#[]⟩)).trans (KeepsOthers.setCell _ ⟨w.heap.size, 1, none⟩ (.string ⟨#[]⟩))).trans (KeepsOthers.setCell _ ⟨w.heap.size, 2, none⟩ (.bool false))).trans (KeepsOthers.setCell _ ⟨w.heap.size, 3, none⟩ (.slice none 0 0))).trans (KeepsOthers.drew _)
      have hK4 := hD4.same D _ hKd rfl
      gi_wp2
      rw [Exit.noGoto_ret]
      refine ⟨by simp, .inl ⟨_, _, rfl, run_takeDeferred hK4, ?_⟩⟩
      have hz4 := ((hzz.set4 (.string ⟨#[]⟩) (.string ⟨#[]⟩) (.bool false) (.slice none 0 0)).drew).put hDw (.deferred none)
      refine ⟨.tuple #[.agg #[.string ⟨#[]⟩, .string ⟨#[]⟩, .bool false, .slice none 0 0], .int .i64 (x.1 : Int), .int .i64 25], res_play f22 rfl rfl hz4 rfl rfl, ?_⟩
      rw [HR.out]
      exact ⟨⟨_, rfl, zero_own _ _⟩, (below_set4 hBW (Nat.le_refl _) _ _ _ _).drew.trans (belowK_b (w := w) (Nat.le_refl _) _ D _ _ (by have := hB.size; omega) hK4 rfl rfl)⟩
theorem parse_go (l : List UInt8) (hl : l.length ≤ 4096) (w : World) (hL : Laid w) (hm : MaxL w) :
    Calls prog 22 #[.string (bA l)] w fun e w' => (∃ mv, e = .returned (.tuple #[.agg #[.string (parL l).p.s1, .string (parL l).p.s2, .bool (parL l).p.lx, mv], .int .i64 ((parL l).k : Int), .int .i64 (parL l).e]) ∧ IsMoves w' mv (dOf (parL l).p.L) (parL l).p.L.length) ∧ Below w.heap.size w w' :=
  (parse_own l hl w hL hm).mono fun _ _ ⟨⟨mv, h1, h2⟩, h3⟩ => ⟨⟨mv, h1, h2.is⟩, h3⟩
end Go.Proofs.Tryz
