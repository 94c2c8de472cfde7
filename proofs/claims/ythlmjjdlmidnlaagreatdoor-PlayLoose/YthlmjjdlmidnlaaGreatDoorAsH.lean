/- canonical of the program, its sizes being right: by the kit's walk. -/
import Derived.Test.YthlmjjdlmidnlaaGreatDoorAsC
namespace Go.Proofs.Tryz
open Go Go.Am Go.RowKit Go.Dr
set_option maxRecDepth 100000


theorem keepStay_w {w : World} {base g n : Nat} {l : List M5} (hL : Laid w) (hrow : RowM w base g n n l) (hn : n ≤ 1000000) :
    Calls prog 98 #[.slice (some ⟨g, 0, none⟩) n n, .func (.func 142) #[] #[]] w fun e w' => ∃ v, e = .returned v ∧ w'.ownsRow w.heap.size 27 5 v (l.filter fun c => !stayB c).length (flat (l.filter fun c => !stayB c)) ∧ Below w.heap.size w w' := by
  have hlen := hrow.len
  by_cases h0 : n = 0
  · subst h0
    have e0 : l = [] := List.length_eq_zero_iff.1 hlen
    subst e0
    refine (kept142_0 _ _ _).mono ?_
    rintro e w' ⟨rfl, hB⟩
    exact ⟨_, rfl, World.ownsRow_nil _ _ _ _, hB⟩
  have hk := keptC_flat (fun c => !stayB c) l n (by omega)
  rw [List.take_of_length_le (by omega)] at hk
  refine (kept142_w (cs := fun i => (l[i]?.map M5.vals).getD []) (p := fun i => (l[i]?.map fun c => !stayB c).getD false) hn (Nat.le_refl _) (fun i hi => ?_) (fun i hi W hW => ?_)).mono ?_
  · obtain ⟨m, hm⟩ : ∃ m, l[i]? = some m := ⟨_, List.getElem?_eq_getElem (by omega)⟩
    obtain ⟨⟨p0, p1, p2, p3, p4⟩, -⟩ := hrow.cells hm
    refine ⟨m.f1, m.f2, m.xb, m.s, m.a, m.k, m.c, by rw [hm]; rfl, ?_⟩
    rw [hm]
    simp only [cellsAt, Nat.zero_add, Option.map_some, Option.getD_some, M5.vals, List.map_cons, List.map_nil]
    rw [show 5 * i = i * 5 by omega, p0, p1, p2, p3, p4]
  · obtain ⟨m, hm⟩ : ∃ m, l[i]? = some m := ⟨_, List.getElem?_eq_getElem (by omega)⟩
    have := nstay142 m W (hL.below hW)
    rw [hm]
    exact this
  · rintro e w' ⟨v, rfl, ho, hB⟩
    rw [hk.1, hk.2] at ho
    exact ⟨v, rfl, ho, hB⟩

theorem IsMoves.but {W W' : World} {g : Nat} {v : Value} {d : Nat → MvD} {n : Nat} (h : IsMoves W v d n) (hk : ∀ k, k ≠ g → W'.heap[k]? = W.heap[k]?) (hg : ∀ j z, W.cell? ⟨g, j, none⟩ ≠ some (.int .i64 z)) : IsMoves W' v d n := by
  have hc : ∀ b o, b ≠ g → W'.cell? ⟨b, o, none⟩ = W.cell? ⟨b, o, none⟩ := fun b o hb => by
    unfold World.cell?
    rw [hk b hb]
  have hne : ∀ b o z, W.cell? ⟨b, o, none⟩ = some (.int .i64 z) → b ≠ g := fun b o z e q => by subst q; exact hg o z e
  obtain ⟨a, c, rfl, hnc, hr⟩ := h
  refine ⟨a, c, rfl, hnc, fun h0 => ?_⟩
  obtain ⟨b, off, ha, hi⟩ := hr h0
  refine ⟨b, off, ha, fun i hin => ?_⟩
  obtain ⟨sv, bv, e, hs, ad, m, c', rfl, h1, h2, h3⟩ := hi i hin
  have hb : b ≠ g := by
    simp only [cellsAt, List.cons.injEq] at e
    exact hne _ _ _ e.1
  refine ⟨sv, _, ?_, hs, ad, m, c', rfl, h1, h2, fun q => ?_⟩
  · rw [← e]
    simp only [cellsAt, hc b _ hb]
  · obtain ⟨b2, o2, e2, f2⟩ := h3 q
    refine ⟨b2, o2, e2, fun j hj => ?_⟩
    have := f2 j hj
    rw [hc b2 _ (hne _ _ _ this)]
    exact this
theorem IsMoves.set4 {W : World} {g : Nat} {v : Value} {d : Nat → MvD} {n : Nat} {z0 z1 : ByteArray} {z2 : Bool} {a : Option Addr} {k c : Nat} {e : TypeId} (h : IsMoves W v d n) (hz : At W g #[.string z0, .string z1, .bool z2, .slice a k c] e) (v0 v1 v2 v3 : Value) :
    IsMoves ((((W.setCell ⟨g, 0, none⟩ v0).setCell ⟨g, 1, none⟩ v1).setCell ⟨g, 2, none⟩ v2).setCell ⟨g, 3, none⟩ v3) v d n := by
  refine h.but (g := g) (fun k hk => ?_) (fun j z q => ?_)
  · rw [Below.heap_setCell _ _ _ _ hk, Below.heap_setCell _ _ _ _ hk, Below.heap_setCell _ _ _ _ hk, Below.heap_setCell _ _ _ _ hk]
  · unfold At at hz
    match j with
    | 0 => simp [World.cell?, hz] at q
    | 1 => simp [World.cell?, hz] at q
    | 2 => simp [World.cell?, hz] at q
    | 3 => simp [World.cell?, hz] at q
    | j + 4 => simp [World.cell?, hz] at q

section
variable {w : World} {y0 y1 : Int → Int} {yo yn eo en : Int} {lx : Bool} {d : Nat → MvD} {n : Nat} {s1 s2 : ByteArray} {ad : Option Addr} {c : Nat}
set_option maxHeartbeats 6400000 in
theorem can_go (hL : Laid w) (hp : IsStr (.string s1) y0 yo yn) (he : IsStr (.string s2) y1 eo en) (hm : IsMoves w (.slice ad n c) d n) (hbn : ∀ i, i < n → (d i).bn ≤ 1000000) (hbig : ¬ BigC yn d n) :
    Calls prog 101 #[.agg #[.string s1, .string s2, .bool lx, .slice ad n c]] w fun e w' => PlAns w' e (canE y0 yo yn y1 eo en d n) (canP s1 s2 lx y0 yo yn y1 eo en d n) ∧ Below w.heap.size w w' := by
  have hsz := str_size hp
  have hB : Below w.heap.size w ((w.alloc (.cells #[.string s1, .string s2, .bool lx, .slice ad n c] 24)).alloc (.cells #[.string ⟨#[]⟩, .string ⟨#[]⟩, .bool false, .slice none 0 0] 24)) := ((Below.refl _ _).alloc (Nat.le_refl _) _).alloc (by simp) _
  have h1 : ¬ (24 : Int) < (s1.size : Int) := fun q => hbig (.inl (by omega))
  have h2 : ¬ (4 : Int) < (n : Int) := fun q => hbig (.inr (.inl (by omega)))
  have hn4 : n ≤ 4 := by omega
  have hr : anyK (fun i => decide (36 < (d i).bn)) n = false := by
    cases h : anyK (fun i => decide (36 < (d i).bn)) n with
    | false => rfl
    | true => exact absurd (.inr (.inr h)) hbig
  have cL := large_w (hm.below hB) (by omega)
  rw [hr] at cL
  have hm' := hm
  obtain ⟨a1, c1, e1, hnc, hM0⟩ := hm'
  simp only [Value.slice.injEq, true_and] at e1
  obtain ⟨rfl, rfl⟩ := e1
  obtain ⟨f, hok, hsrc⟩ : ∃ f : Nat → M5, (∀ i, i < n → M5Ok w (f i) (d i)) ∧ (n ≠ 0 → ∃ b off, ad = some ⟨b, off, none⟩ ∧ ∀ j u, (flat ((List.range n).map f))[j]? = some u → w.cell? ⟨b, off + j, none⟩ = some u) := by
    by_cases h0 : n = 0
    · subst h0
      exact ⟨fun _ => ⟨0, 0, false, ⟨#[]⟩, none, 0, 0⟩, fun i hi => absurd hi (Nat.not_lt_zero _), fun q => absurd rfl q⟩
    · obtain ⟨b, off, rfl, hM⟩ := hM0 h0
      obtain ⟨f, hf⟩ := m5_of hM
      exact ⟨f, fun i hi => (hf i hi).2, fun _ => ⟨b, off, rfl, src_of fun i hi => (hf i hi).1⟩⟩
  obtain ⟨i27, hi, hz0, hz1, hz2⟩ := info_more info27
  have HOK : Hid (∀ i, i < n → M5Ok w (f i) (d i)) := Lib.hid hok
  obtain ⟨l0, hl0⟩ : ∃ l0, l0 = (List.range n).map f := ⟨_, rfl⟩
  rw [← hl0] at hsrc
  have hlen0 : l0.length = n := by rw [hl0]; simp
  have HL0 : Hid (l0 = (List.range n).map f) := Lib.hid hl0
  have HBIG : Hid (¬ BigC yn d n) := Lib.hid hbig
  clear hM0 hok hl0 hbig hsz hr hnc
  go_enter func101, ntmps101
  go_wp2_with fail
  go_at_call 137
  refine cL.mono ?_
  rintro e w2 ⟨rfl, hk2⟩
  have hx := (at2_0 _ _ _ _ _).below hk2 (by rw [size2]; omega)
  have hz := (at2_1 _ _ _ _ _).below hk2 (by rw [size2]; omega)
  obtain ⟨⟨x0, x1, x2, x3⟩, -⟩ := box4 hx
  have hb2 : Below w.heap.size w w2 := hB.trans (hk2.mono (by rw [size2]; omega))
  have hs2 : w.heap.size + 2 ≤ w2.heap.size := by have := hk2.size; rw [size2] at this; exact this
  clear cL hk2
  have hsrc2 : n ≠ 0 → ∃ b off, ad = some ⟨b, off, none⟩ ∧ ∀ j u, (flat l0)[j]? = some u → w2.cell? ⟨b, off + j, none⟩ = some u := fun q => by
    obtain ⟨b, off, e, h⟩ := hsrc q
    exact ⟨b, off, e, fun j u hj => (hb2.cell (cell_under (h j u hj))).trans (h j u hj)⟩
  clear hsrc
  go_wp2_with (first
    | (at_make; refine wpList_make_full _ rfl _ _ 22 rfl (w.heap.size + 2) 27 i27 _ 5 underlying22 hi hz0 hz1 _ _ _ _ n rfl rfl rfl rfl ?b2 ?b3 ?b4 ?_)
    | go_in)
  case b2 => rw [hz2]; omega
  case b3 => unfold maxLen; omega
  case b4 => exact hs2
  intro w3 hown3 hgr3
  have hb3 : Below w.heap.size w w3 := hb2.grown hgr3 (by omega) (fun q hq => by cases hq)
  have hs3 : w2.heap.size ≤ w3.heap.size := hgr3.size
  have hx3 : At w3 w.heap.size #[.string s1, .string s2, .bool lx, .slice ad n c] 24 := (hgr3.block _ hx.lt (fun e => by cases e)).trans hx
  have hz3 : At w3 (w.heap.size + 1) #[.string ⟨#[]⟩, .string ⟨#[]⟩, .bool false, .slice none 0 0] 24 := (hgr3.block _ hz.lt (fun e => by cases e)).trans hz
  have hsrc3 : n ≠ 0 → ∃ b off, ad = some ⟨b, off, none⟩ ∧ ∀ j u, (flat l0)[j]? = some u → w3.cell? ⟨b, off + j, none⟩ = some u := fun q => by
    obtain ⟨b, off, e, h⟩ := hsrc2 q
    refine ⟨b, off, e, fun j u hj => ?_⟩
    have hc := h j u hj
    have : b < w2.heap.size := cell_under hc
    have e2 := hgr3.block b this (fun e => by cases e)
    rw [← hc]
    unfold World.cell?
    rw [e2]
  have hbz : Below (w.heap.size + 2) w3 w3 := Below.refl _ _
  clear hsrc2 hgr3 x0 x1 x2 x3 hx hz hb2
  generalize w2.heap.size = g at hown3 hs2 hs3 ⊢
  obtain ⟨⟨x0, x1, x2, x3⟩, -⟩ := box4 hx3
  go_wp2_with (first
    | (refine wpList_copyM _ rfl (.tmp 31) (.tmp 33) rfl (w.heap.size + 2) g n c ad rfl rfl _ hown3 l0 hlen0 hsrc3 w3 hbz ?_)
    | go_in)
  intro w4 hown4 hk4
  have hx4 : At w4 w.heap.size #[.string s1, .string s2, .bool lx, .slice ad n c] 24 := (hk4.block _ (by omega)).trans hx3
  have hz4 : At w4 (w.heap.size + 1) #[.string ⟨#[]⟩, .string ⟨#[]⟩, .bool false, .slice none 0 0] 24 := (hk4.block _ (by omega)).trans hz3
  have hb4 : Below w.heap.size w w4 := hb3.trans (hk4.mono (by omega))
  have hs4 : w3.heap.size ≤ w4.heap.size := hk4.size
  have cS : Calls prog 139 #[.slice (some ⟨g, 0, none⟩) n n, .func (.func 140) #[] #[]] w4 fun e w' => e = .returned (.tuple #[]) ∧ (∃ l', l'.Perm l0 ∧ Desc l' n ∧ RowM w' (w.heap.size + 2) g n n l') ∧ Below (w.heap.size + 2) w4 w' := sort_w l0 (w.heap.size + 2) g n n w4 hown4 (by omega) (by omega)
  clear hown3 hsrc3 hbz hk4 hx3 hz3 hb3 x0 x1 x2 x3
  go_wp2_with fail
  go_at_call 139
  refine cS.mono ?_
  rintro e w5 ⟨rfl, ⟨l1, hperm, hdesc, hrow5⟩, hk5⟩
  have hperm2 := hperm
  rw [HL0.out] at hperm2
  obtain ⟨ys, hys, hl1⟩ := perm_map_inv hperm2 _ rfl
  have hpair : ys.Pairwise (fun i j => (d j).fr ≤ (d i).fr) := desc_pair hys (fun i hi => (HOK.out i hi).1) (hl1 ▸ hdesc)
  have hyl : ys.length = n := by have := hys.length_eq; simpa using this
  have hym : ∀ j k, ys[j]? = some k → k < n := fun j k h => List.mem_range.1 (hys.mem_iff.1 (List.mem_iff_getElem?.2 ⟨j, h⟩))
  have hx5 : At w5 w.heap.size #[.string s1, .string s2, .bool lx, .slice ad n c] 24 := (hk5.block _ (by omega)).trans hx4
  have hz5 : At w5 (w.heap.size + 1) #[.string ⟨#[]⟩, .string ⟨#[]⟩, .bool false, .slice none 0 0] 24 := (hk5.block _ (by omega)).trans hz4
  have hb5 : Below w.heap.size w w5 := hb4.trans (hk5.mono (by omega))
  have hlc5 : LoopC w5 (w.heap.size + 2) f d ys 0 l1 := by rw [hl1]; exact LoopC.start
  have HP : Hid (ys.Perm (List.range n) ∧ ys.Pairwise (fun i j => (d j).fr ≤ (d i).fr) ∧ ys.length = n) := Lib.hid ⟨hys, hpair, hyl⟩
  clear cS hperm hperm2 hdesc hl1 hpair hown4 hx4 hz4 hb4 hk5 hys hlen0
  go_wp2_with fail
  go_loopw [6, 39] (fun _ s wr => ∃ (i : Nat) (l : List M5), i ≤ n ∧ s = .int .i64 i ∧ RowM wr (w.heap.size + 2) g n n l ∧ LoopC wr (w.heap.size + 2) f d ys i l ∧ At wr w.heap.size #[.string s1, .string s2, .bool lx, .slice ad n c] 24 ∧ At wr (w.heap.size + 1) #[.string ⟨#[]⟩, .string ⟨#[]⟩, .bool false, .slice none 0 0] 24 ∧ Below w.heap.size w wr) (fun _ s _ => n - (numOf' s).toNat)
  case atStart => exact ⟨0, l1, Nat.zero_le _, rfl, hrow5, hlc5, hx5, hz5, hb5⟩
  case round =>
    clear hrow5 hlc5 hx5 hz5 hb5
    obtain ⟨i, l, hin', rfl, hrow, hlc, hx, hz, hb⟩ := hrel
    by_cases hin : i < n
    · as_aux_lemma =>
        obtain ⟨k, hk⟩ : ∃ k, ys[i]? = some k := ⟨_, List.getElem?_eq_getElem (by omega)⟩
        have hkn := hym i k hk
        have hli := hlc.left i k (Nat.le_refl _) hk
        have hok := (HOK.out k hkn).below hb
        have hf1 : (f k).f1 = (d k).fr := hok.1
        obtain ⟨⟨p0, p1, p2, p3, p4⟩, -⟩ := hrow.cells hli
        cases i with
        | zero =>
          go_wp2_with fail
          go_region
          have hrowD := hrow.drew
          have hlcD := hlc.below ((Below.refl wr.heap.size wr).drew)
          have hxD : At wr.drew w.heap.size #[.string s1, .string s2, .bool lx, .slice ad n c] 24 := hx
          have hzD : At wr.drew (w.heap.size + 1) #[.string ⟨#[]⟩, .string ⟨#[]⟩, .bool false, .slice none 0 0] 24 := hz
          have hbD := hb.drew
          have hokD := hok.below ((Below.refl wr.heap.size wr).drew)
          clear hrow hlc hx hz hb hok p0 p1 p2 p3 p4 
          generalize wr.drew = W at hrowD hlcD hxD hzD hbD hokD ⊢
          obtain ⟨⟨p0, p1, p2, p3, p4⟩, fz⟩ := hrowD.cells hli
          have cCl := clone_any hokD.2.2.2.2 (hbn k hkn)
          have hbs := hbD.size
          clear fz p0 p1 p2 p3
          go_wp2_with fail
          go_at_call 133
          refine cCl.mono ?_
          rintro e w6 ⟨v6, rfl, ho6, hk6⟩
          have cCo := compact_w ho6 (by have := hbn k hkn; omega)
          obtain ⟨a6, k6, c6, rfl⟩ := owns_slice ho6
          clear cCl p4
          go_wp2_with fail
          go_at_call 141
          refine cCo.mono ?_
          rintro e w7 ⟨v7, rfl, ho7, hk7⟩
          obtain ⟨a7, k7, c7, rfl⟩ := owns_slice ho7
          have hbW : Below W.heap.size W w7 := hk6.trans hk7
          have hrow7 := hrowD.below hbW
          have hlc7 := hlcD.below hbW
          have hx7 := hxD.below hbW hxD.lt
          have hz7 := hzD.below hbW hzD.lt
          have hb7 := hbD.trans (hbW.mono hbD.size)
          obtain ⟨⟨-, -, -, -, p4⟩, fz⟩ := hrow7.cells hli
          have f4 := fz (0 * 5 + 4)
          have hrown := hrow7.setLast hli a7 k7 c7
          have hnext := hlc7.next hrow7 hk (a := a7) (m := k7) (c := c7) ⟨hokD.1, hokD.2.1, hokD.2.2.1, hokD.2.2.2.1, by rw [tchs_plainM]; exact owns_base ho7 (by have := hzD.lt; omega), by simp [plainM]⟩ (fun j b e => by omega)
          have hlen := hrowD.lt.1
          have hxn := hx7.setCell (a := ⟨g, 0 * 5 + 4, none⟩) (by simp; omega) (.slice a7 k7 c7)
          have hzn := hz7.setCell (a := ⟨g, 0 * 5 + 4, none⟩) (by simp; omega) (.slice a7 k7 c7)
          have hbn' := hb7.setCell (p := ⟨g, 0 * 5 + 4, none⟩) (by simp; omega) (.slice a7 k7 c7)
          clear cCo ho6 ho7 hk6 hk7 hbW hrow7 hlc7 hx7 hz7 hb7 hrowD hlcD hxD hzD hbD fz
          go_wp2
          go_roundw
          case rel => exact ⟨0 + 1, _, by omega, by go_num, hrown, hnext, hxn, hzn, hbn'⟩
          case measure => simp [numOf'] <;> omega
        | succ j =>
          obtain ⟨k2, hk2⟩ : ∃ k2, ys[j]? = some k2 := ⟨_, List.getElem?_eq_getElem (by omega)⟩
          obtain ⟨c2, hc2, ho2⟩ := hlc.done j k2 (by omega) hk2
          have hf1c : c2.f1 = (d k2).fr := ho2.1
          obtain ⟨⟨q0, q1, q2, q3, q4⟩, -⟩ := hrow.cells hc2
          clear ho2
          by_cases hne : (f k).f1 = c2.f1
          · have hdup : DupD d n := dup_of_adj HP.out.1 hk2 hk (by rw [← hf1, ← hf1c, hne])
            have HC : Hid (canE y0 yo yn y1 eo en d n = 9) := Lib.hid (by unfold canE; rw [if_neg HBIG.out, if_pos hdup])
            have HC2 : Hid (canP s1 s2 lx y0 yo yn y1 eo en d n = zeroP) := Lib.hid (by unfold canP; rw [if_neg (by rw [HC.out]; decide)])
            rw [hne] at p0
            generalize c2.f1 = z at p0 q0
            have hzD : At wr.drew (w.heap.size + 1) #[.string ⟨#[]⟩, .string ⟨#[]⟩, .bool false, .slice none 0 0] 24 := hz
            have hbD := hb.drew
            clear hne hf1 hf1c hdup hli hlc hok hk hk2 hc2 p1 p2 p3 p4 q1 q2 q3 q4
            go_wp2_with fail
            go_region
            clear hx hz hrow hb p0 q0
            generalize wr.drew = W at hzD hbD ⊢
            obtain ⟨⟨z0, z1, z2, z3⟩, g0, g1, g2, g3⟩ := box4 hzD
            have fin : Below w.heap.size w ((((W.setCell ⟨w.heap.size + 1, 0, none⟩ (.string ⟨#[]⟩)).setCell ⟨w.heap.size + 1, 1, none⟩ (.string ⟨#[]⟩)).setCell ⟨w.heap.size + 1, 2, none⟩ (.bool false)).setCell ⟨w.heap.size + 1, 3, none⟩ (.slice none 0 0)) :=
              (((hbD.setCell (p := ⟨w.heap.size + 1, 0, none⟩) (by simp) _).setCell (p := ⟨w.heap.size + 1, 1, none⟩) (by simp) _).setCell (p := ⟨w.heap.size + 1, 2, none⟩) (by simp) _).setCell (p := ⟨w.heap.size + 1, 3, none⟩) (by simp) _
            go_wp2
            refine bodyPost_ret (v := .tuple #[.agg #[.string ⟨#[]⟩, .string ⟨#[]⟩, .bool false, .slice none 0 0], .int .i64 9]) (by simp [results, results101, go_sem, World.cell?_setCell_same, z0, z1, z2, z3]) rfl ⟨?_, fin⟩
            rw [HC.out, HC2.out]
            exact ⟨_, rfl, zero_is _⟩
          · have hadj : ∀ j2 b, j + 1 = j2 + 1 → ys[j2]? = some b → (d b).fr ≠ (d k).fr := fun j2 b e hb2 => by
              have : j2 = j := by omega
              subst this
              rw [hk2] at hb2; cases hb2
              exact fun q => hne (by rw [hf1, hf1c]; exact q.symm)
            have Hadj := Lib.hid hadj
            clear hadj hf1 hf1c hk2 hc2
            go_wp2_with fail
            go_region
            have hrowD := hrow.drew
            have hlcD := hlc.below ((Below.refl wr.heap.size wr).drew)
            have hxD : At wr.drew w.heap.size #[.string s1, .string s2, .bool lx, .slice ad n c] 24 := hx
            have hzD : At wr.drew (w.heap.size + 1) #[.string ⟨#[]⟩, .string ⟨#[]⟩, .bool false, .slice none 0 0] 24 := hz
            have hbD := hb.drew
            have hokD := hok.below ((Below.refl wr.heap.size wr).drew)
            clear hrow hlc hx hz hb hok p0 p1 p2 p3 p4 q0 q1 q2 q3 q4
            generalize wr.drew = W at hrowD hlcD hxD hzD hbD hokD ⊢
            obtain ⟨⟨p0, p1, p2, p3, p4⟩, fz⟩ := hrowD.cells hli
            have cCl := clone_any hokD.2.2.2.2 (hbn k hkn)
            have hbs := hbD.size
            clear fz p0 p1 p2 p3
            go_wp2_with fail
            go_at_call 133
            refine cCl.mono ?_
            rintro e w6 ⟨v6, rfl, ho6, hk6⟩
            have cCo := compact_w ho6 (by have := hbn k hkn; omega)
            obtain ⟨a6, k6, c6, rfl⟩ := owns_slice ho6
            clear cCl p4
            go_wp2_with fail
            go_at_call 141
            refine cCo.mono ?_
            rintro e w7 ⟨v7, rfl, ho7, hk7⟩
            obtain ⟨a7, k7, c7, rfl⟩ := owns_slice ho7
            have hbW : Below W.heap.size W w7 := hk6.trans hk7
            have hrow7 := hrowD.below hbW
            have hlc7 := hlcD.below hbW
            have hx7 := hxD.below hbW hxD.lt
            have hz7 := hzD.below hbW hzD.lt
            have hb7 := hbD.trans (hbW.mono hbD.size)
            obtain ⟨⟨-, -, -, -, p4⟩, fz⟩ := hrow7.cells hli
            have f4 := fz ((j + 1) * 5 + 4)
            have hrown := hrow7.setLast hli a7 k7 c7
            have hnext := hlc7.next hrow7 hk (a := a7) (m := k7) (c := c7) ⟨hokD.1, hokD.2.1, hokD.2.2.1, hokD.2.2.2.1, by rw [tchs_plainM]; exact owns_base ho7 (by have := hzD.lt; omega), by simp [plainM]⟩ Hadj.out
            have hlen := hrowD.lt.1
            have hxn := hx7.setCell (a := ⟨g, (j + 1) * 5 + 4, none⟩) (by simp; omega) (.slice a7 k7 c7)
            have hzn := hz7.setCell (a := ⟨g, (j + 1) * 5 + 4, none⟩) (by simp; omega) (.slice a7 k7 c7)
            have hbn' := hb7.setCell (p := ⟨g, (j + 1) * 5 + 4, none⟩) (by simp; omega) (.slice a7 k7 c7)
            clear cCo ho6 ho7 hk6 hk7 hbW hrow7 hlc7 hx7 hz7 hb7 hrowD hlcD hxD hzD hbD fz
            go_wp2
            go_roundw
            case rel => exact ⟨j + 1 + 1, _, by omega, by go_num, hrown, hnext, hxn, hzn, hbn'⟩
            case measure => simp [numOf'] <;> omega
    · as_aux_lemma =>
        obtain rfl : i = n := by omega
        have hnd : ¬ DupD d i := nodup_of_adj HP.out.1 HP.out.2.1 (fun j a b ha hb => hlc.adj j a b (by have := (List.getElem?_eq_some_iff.1 hb).1; omega) ha hb)
        have hys : ys = srtI d i := srt_uniq HP.out.1 HP.out.2.1 hnd
        rw [← hyl] at hlc
        have hK := hlc.kept
        have eL : ((ys.map fun i => plainM (d i)).filter fun m => !stayD m) = canL d i := by rw [hys]; rfl
        rw [eL] at hK
        have hLlen : (canL d i).length ≤ 4 := by
          unfold canL
          refine Nat.le_trans (List.length_filter_le _ _) ?_
          rw [List.length_map, (srt_perm d i).length_eq, List.length_range]
          exact hn4
        obtain ⟨L, hLe⟩ : ∃ L, canL d i = L := ⟨_, rfl⟩
        rw [hLe] at hK hLlen
        obtain ⟨pv, hpv⟩ : ∃ pv, plV y0 yo yn y1 eo en (dOf L) L.length = pv := ⟨_, rfl⟩
        have HC : Hid (canE y0 yo yn y1 eo en d i = pv ∧ canP s1 s2 lx y0 yo yn y1 eo en d i = if pv = 0 then ⟨s1, s2, lateC lx L, L⟩ else zeroP) := Lib.hid (by
          have e1 : canE y0 yo yn y1 eo en d i = pv := by unfold canE; rw [if_neg HBIG.out, if_neg hnd, hLe, hpv]
          refine ⟨e1, ?_⟩
          unfold canP
          rw [e1, hLe])
        have cK := keepStay_w (hL.below hb) hrow (by omega)
        clear hlc hnd hys eL hLe hym hrow
        go_wp2_with fail
        go_at_call 98
        refine cK.mono ?_
        rintro e w8 ⟨v8, rfl, ho8, hk8⟩
        obtain ⟨hl8, hm8⟩ := moves_flat ho8 (hK.imp fun a b h => h.below hk8)
        obtain ⟨a8, k8, c8, rfl⟩ := owns_slice ho8
        have hx8 := hx.below hk8 hx.lt
        have hz8 := hz.below hk8 hz.lt
        have hb8 := hb.trans (hk8.mono hb.size)
        have ek : k8 = L.length := by
          obtain ⟨a', c', e, -, -⟩ := hm8
          simp only [Value.slice.injEq] at e
          exact e.2.1
        have HV : Hid (plV y0 yo yn y1 eo en (dOf L) L.length = pv) := Lib.hid hpv
        generalize hq1 : L.any runQ = r1
        generalize hq2 : L.any outQ = r2
        have HR : Hid (L.any runQ = r1 ∧ L.any outQ = r2) := Lib.hid ⟨hq1, hq2⟩
        have cR : ∀ W, Below w8.heap.size w8 W → Calls prog 137 #[.slice a8 k8 c8, .func (.func 100) #[] #[]] W fun e w' => e = .returned (.bool r1) ∧ Below W.heap.size W w' := fun W hW => by
          have := anyRun_w (n := L.length) (ad := a8) (c := c8) (d := dOf L) (by rw [← ek]; rw [← ek] at hm8; exact hm8.below hW) (by omega)
          rw [anyK_all, hq1, ← ek] at this
          exact this
        have cO : ∀ W, Below w8.heap.size w8 W → Calls prog 137 #[.slice a8 k8 c8, .func (.func 144) #[] #[]] W fun e w' => e = .returned (.bool r2) ∧ Below W.heap.size W w' := fun W hW => by
          have := anyOut_w (n := L.length) (ad := a8) (c := c8) (d := dOf L) (by rw [← ek]; rw [← ek] at hm8; exact hm8.below hW) (by omega)
          rw [anyK_all, hq2, ← ek] at this
          exact this
        have cC : ∀ W (b : Bool), Below w8.heap.size w8 W → Calls prog 15 #[.agg #[.string s1, .string s2, .bool b, .slice a8 k8 c8]] W fun e w' => e = .returned (.int .i64 pv) ∧ Below W.heap.size W w' := fun W b hW => by
          have := chk_b b ((hL.below hb8).below hW) hp he (hm8.below hW) W (Below.refl _ _)
          rw [HV.out] at this
          exact this
        have HM := Lib.hid hm8
        clear hpv hq1 hq2 ek hm8 hl8 ho8 hK cK hx hz hb hk8 hLlen
        obtain ⟨⟨x0, x1, x2, x3⟩, -⟩ := box4 hx8
        cases lx with
        | false =>
          have hA : Below w8.heap.size w8 (w8.alloc (.cells #[.string s1, .string s2, .bool false, .slice a8 k8 c8] 24)) := (Below.refl w8.heap.size w8).alloc (Below.refl w8.heap.size w8).size _
          have hp10 := at_new w8 #[.string s1, .string s2, .bool false, .slice a8 k8 c8] 24
          have hz10 := hz8.alloc (.cells #[.string s1, .string s2, .bool false, .slice a8 k8 c8] 24)
          have hb10 := hb8.alloc hb8.size (.cells #[.string s1, .string s2, .bool false, .slice a8 k8 c8] 24)
          go_wp2_with fail
          go_at_call 15
          refine (cC _ _ hA).mono ?_
          rintro e w10 ⟨rfl, hk10⟩
          have hp11 := hp10.below hk10 hp10.lt
          have hz11 := hz10.below hk10 hz10.lt
          have hb11 := hb10.trans (hk10.mono hb10.size)
          have hc11 := hA.trans (hk10.mono hA.size)
          obtain ⟨⟨u0, u1, u2, u3⟩, -⟩ := box4 hp11
          obtain ⟨⟨z0, z1, z2, z3⟩, g0, g1, g2, g3⟩ := box4 hz11
          clear hA hp10 hz10 hb10 hk10 x0 x1 x2 x3 cR cO cC
          by_cases hpz : pv = 0
          · have hfin : Below w.heap.size w ((((w10.setCell ⟨w.heap.size + 1, 0, none⟩ (.string s1)).setCell ⟨w.heap.size + 1, 1, none⟩ (.string s2)).setCell ⟨w.heap.size + 1, 2, none⟩ (.bool false)).setCell ⟨w.heap.size + 1, 3, none⟩ (.slice a8 k8 c8)) :=
              (((hb11.setCell (p := ⟨w.heap.size + 1, 0, none⟩) (by simp) _).setCell (p := ⟨w.heap.size + 1, 1, none⟩) (by simp) _).setCell (p := ⟨w.heap.size + 1, 2, none⟩) (by simp) _).setCell (p := ⟨w.heap.size + 1, 3, none⟩) (by simp) _
            have hmf2 : IsMoves ((((w10.setCell ⟨w.heap.size + 1, 0, none⟩ (.string s1)).setCell ⟨w.heap.size + 1, 1, none⟩ (.string s2)).setCell ⟨w.heap.size + 1, 2, none⟩ (.bool false)).setCell ⟨w.heap.size + 1, 3, none⟩ (.slice a8 k8 c8)) (.slice a8 k8 c8) (dOf L) L.length := (HM.out.below hc11).set4 hz11 _ _ _ _
            have HE : Hid (canE y0 yo yn y1 eo en d i = 0 ∧ canP s1 s2 false y0 yo yn y1 eo en d i = ⟨s1, s2, lateC false L, L⟩) := Lib.hid ⟨by rw [HC.out.1, hpz], by rw [HC.out.2, if_pos hpz]⟩
            clear HC
            subst hpz
            go_wp2
            refine bodyPost_ret (v := .tuple #[.agg #[.string s1, .string s2, .bool false, .slice a8 k8 c8], .int .i64 0]) (by simp [results, results101, go_sem, World.cell?_setCell_same, z0, z1, z2, z3]) rfl ⟨?_, hfin⟩
            rw [HE.out.1, HE.out.2]
            exact ⟨_, by simp [lateC], hmf2⟩
          · have hfin : Below w.heap.size w ((((w10.setCell ⟨w.heap.size + 1, 0, none⟩ (.string ⟨#[]⟩)).setCell ⟨w.heap.size + 1, 1, none⟩ (.string ⟨#[]⟩)).setCell ⟨w.heap.size + 1, 2, none⟩ (.bool false)).setCell ⟨w.heap.size + 1, 3, none⟩ (.slice none 0 0)) :=
              (((hb11.setCell (p := ⟨w.heap.size + 1, 0, none⟩) (by simp) _).setCell (p := ⟨w.heap.size + 1, 1, none⟩) (by simp) _).setCell (p := ⟨w.heap.size + 1, 2, none⟩) (by simp) _).setCell (p := ⟨w.heap.size + 1, 3, none⟩) (by simp) _
            go_wp2
            refine bodyPost_ret (v := .tuple #[.agg #[.string ⟨#[]⟩, .string ⟨#[]⟩, .bool false, .slice none 0 0], .int .i64 pv]) (by simp [results, results101, go_sem, World.cell?_setCell_same, z0, z1, z2, z3]) rfl ⟨?_, hfin⟩
            rw [HC.out.1, HC.out.2, if_neg hpz]
            exact ⟨_, rfl, zero_is _⟩
        | true =>
          cases r1 with
          | false =>
            go_wp2_with fail
            go_at_call 137
            refine (cR _ (Below.refl _ _)).mono ?_
            rintro e w9 ⟨rfl, hk9⟩
            have hx9 := hx8.below hk9 hx8.lt
            have hz9 := hz8.below hk9 hz8.lt
            have hb9 := hb8.trans (hk9.mono hb8.size)
            have hc9 := hk9
            clear x0 x1 x2 x3 hx8 hz8 hb8
            obtain ⟨⟨x0, x1, x2, x3⟩, -⟩ := box4 hx9
            have hA : Below w8.heap.size w8 (w9.alloc (.cells #[.string s1, .string s2, .bool false, .slice a8 k8 c8] 24)) := (hc9).alloc (hc9).size _
            have hp10 := at_new w9 #[.string s1, .string s2, .bool false, .slice a8 k8 c8] 24
            have hz10 := hz9.alloc (.cells #[.string s1, .string s2, .bool false, .slice a8 k8 c8] 24)
            have hb10 := hb9.alloc hb9.size (.cells #[.string s1, .string s2, .bool false, .slice a8 k8 c8] 24)
            go_wp2_with fail
            go_at_call 15
            refine (cC _ _ hA).mono ?_
            rintro e w10 ⟨rfl, hk10⟩
            have hp11 := hp10.below hk10 hp10.lt
            have hz11 := hz10.below hk10 hz10.lt
            have hb11 := hb10.trans (hk10.mono hb10.size)
            have hc11 := hA.trans (hk10.mono hA.size)
            obtain ⟨⟨u0, u1, u2, u3⟩, -⟩ := box4 hp11
            obtain ⟨⟨z0, z1, z2, z3⟩, g0, g1, g2, g3⟩ := box4 hz11
            clear hA hp10 hz10 hb10 hk10 x0 x1 x2 x3 cR cO cC
            by_cases hpz : pv = 0
            · have hfin : Below w.heap.size w ((((w10.setCell ⟨w.heap.size + 1, 0, none⟩ (.string s1)).setCell ⟨w.heap.size + 1, 1, none⟩ (.string s2)).setCell ⟨w.heap.size + 1, 2, none⟩ (.bool false)).setCell ⟨w.heap.size + 1, 3, none⟩ (.slice a8 k8 c8)) :=
                (((hb11.setCell (p := ⟨w.heap.size + 1, 0, none⟩) (by simp) _).setCell (p := ⟨w.heap.size + 1, 1, none⟩) (by simp) _).setCell (p := ⟨w.heap.size + 1, 2, none⟩) (by simp) _).setCell (p := ⟨w.heap.size + 1, 3, none⟩) (by simp) _
              have hmf2 : IsMoves ((((w10.setCell ⟨w.heap.size + 1, 0, none⟩ (.string s1)).setCell ⟨w.heap.size + 1, 1, none⟩ (.string s2)).setCell ⟨w.heap.size + 1, 2, none⟩ (.bool false)).setCell ⟨w.heap.size + 1, 3, none⟩ (.slice a8 k8 c8)) (.slice a8 k8 c8) (dOf L) L.length := (HM.out.below hc11).set4 hz11 _ _ _ _
              have HE : Hid (canE y0 yo yn y1 eo en d i = 0 ∧ canP s1 s2 true y0 yo yn y1 eo en d i = ⟨s1, s2, lateC true L, L⟩) := Lib.hid ⟨by rw [HC.out.1, hpz], by rw [HC.out.2, if_pos hpz]⟩
              clear HC
              subst hpz
              go_wp2
              refine bodyPost_ret (v := .tuple #[.agg #[.string s1, .string s2, .bool false, .slice a8 k8 c8], .int .i64 0]) (by simp [results, results101, go_sem, World.cell?_setCell_same, z0, z1, z2, z3]) rfl ⟨?_, hfin⟩
              rw [HE.out.1, HE.out.2]
              exact ⟨_, by simp [lateC, HR.out.1], hmf2⟩
            · have hfin : Below w.heap.size w ((((w10.setCell ⟨w.heap.size + 1, 0, none⟩ (.string ⟨#[]⟩)).setCell ⟨w.heap.size + 1, 1, none⟩ (.string ⟨#[]⟩)).setCell ⟨w.heap.size + 1, 2, none⟩ (.bool false)).setCell ⟨w.heap.size + 1, 3, none⟩ (.slice none 0 0)) :=
                (((hb11.setCell (p := ⟨w.heap.size + 1, 0, none⟩) (by simp) _).setCell (p := ⟨w.heap.size + 1, 1, none⟩) (by simp) _).setCell (p := ⟨w.heap.size + 1, 2, none⟩) (by simp) _).setCell (p := ⟨w.heap.size + 1, 3, none⟩) (by simp) _
              go_wp2
              refine bodyPost_ret (v := .tuple #[.agg #[.string ⟨#[]⟩, .string ⟨#[]⟩, .bool false, .slice none 0 0], .int .i64 pv]) (by simp [results, results101, go_sem, World.cell?_setCell_same, z0, z1, z2, z3]) rfl ⟨?_, hfin⟩
              rw [HC.out.1, HC.out.2, if_neg hpz]
              exact ⟨_, rfl, zero_is _⟩
          | true =>
            go_wp2_with fail
            go_at_call 137
            refine (cR _ (Below.refl _ _)).mono ?_
            rintro e w9 ⟨rfl, hk9⟩
            go_wp2_with fail
            go_at_call 137
            refine (cO _ hk9).mono ?_
            rintro e w9' ⟨rfl, hk9'⟩
            have hc9 := hk9.trans (hk9'.mono hk9.size)
            have hx9 := hx8.below hc9 hx8.lt
            have hz9 := hz8.below hc9 hz8.lt
            have hb9 := hb8.trans (hc9.mono hb8.size)
            clear x0 x1 x2 x3 hx8 hz8 hb8 hk9 hk9'
            obtain ⟨⟨x0, x1, x2, x3⟩, -⟩ := box4 hx9
            have hA : Below w8.heap.size w8 (w9'.alloc (.cells #[.string s1, .string s2, .bool r2, .slice a8 k8 c8] 24)) := (hc9).alloc (hc9).size _
            have hp10 := at_new w9' #[.string s1, .string s2, .bool r2, .slice a8 k8 c8] 24
            have hz10 := hz9.alloc (.cells #[.string s1, .string s2, .bool r2, .slice a8 k8 c8] 24)
            have hb10 := hb9.alloc hb9.size (.cells #[.string s1, .string s2, .bool r2, .slice a8 k8 c8] 24)
            go_wp2_with fail
            go_at_call 15
            refine (cC _ _ hA).mono ?_
            rintro e w10 ⟨rfl, hk10⟩
            have hp11 := hp10.below hk10 hp10.lt
            have hz11 := hz10.below hk10 hz10.lt
            have hb11 := hb10.trans (hk10.mono hb10.size)
            have hc11 := hA.trans (hk10.mono hA.size)
            obtain ⟨⟨u0, u1, u2, u3⟩, -⟩ := box4 hp11
            obtain ⟨⟨z0, z1, z2, z3⟩, g0, g1, g2, g3⟩ := box4 hz11
            clear hA hp10 hz10 hb10 hk10 x0 x1 x2 x3 cR cO cC
            by_cases hpz : pv = 0
            · have hfin : Below w.heap.size w ((((w10.setCell ⟨w.heap.size + 1, 0, none⟩ (.string s1)).setCell ⟨w.heap.size + 1, 1, none⟩ (.string s2)).setCell ⟨w.heap.size + 1, 2, none⟩ (.bool r2)).setCell ⟨w.heap.size + 1, 3, none⟩ (.slice a8 k8 c8)) :=
                (((hb11.setCell (p := ⟨w.heap.size + 1, 0, none⟩) (by simp) _).setCell (p := ⟨w.heap.size + 1, 1, none⟩) (by simp) _).setCell (p := ⟨w.heap.size + 1, 2, none⟩) (by simp) _).setCell (p := ⟨w.heap.size + 1, 3, none⟩) (by simp) _
              have hmf2 : IsMoves ((((w10.setCell ⟨w.heap.size + 1, 0, none⟩ (.string s1)).setCell ⟨w.heap.size + 1, 1, none⟩ (.string s2)).setCell ⟨w.heap.size + 1, 2, none⟩ (.bool r2)).setCell ⟨w.heap.size + 1, 3, none⟩ (.slice a8 k8 c8)) (.slice a8 k8 c8) (dOf L) L.length := (HM.out.below hc11).set4 hz11 _ _ _ _
              have HE : Hid (canE y0 yo yn y1 eo en d i = 0 ∧ canP s1 s2 true y0 yo yn y1 eo en d i = ⟨s1, s2, lateC true L, L⟩) := Lib.hid ⟨by rw [HC.out.1, hpz], by rw [HC.out.2, if_pos hpz]⟩
              clear HC
              subst hpz
              go_wp2
              refine bodyPost_ret (v := .tuple #[.agg #[.string s1, .string s2, .bool r2, .slice a8 k8 c8], .int .i64 0]) (by simp [results, results101, go_sem, World.cell?_setCell_same, z0, z1, z2, z3]) rfl ⟨?_, hfin⟩
              rw [HE.out.1, HE.out.2]
              exact ⟨_, by simp [lateC, HR.out.1, HR.out.2], hmf2⟩
            · have hfin : Below w.heap.size w ((((w10.setCell ⟨w.heap.size + 1, 0, none⟩ (.string ⟨#[]⟩)).setCell ⟨w.heap.size + 1, 1, none⟩ (.string ⟨#[]⟩)).setCell ⟨w.heap.size + 1, 2, none⟩ (.bool false)).setCell ⟨w.heap.size + 1, 3, none⟩ (.slice none 0 0)) :=
                (((hb11.setCell (p := ⟨w.heap.size + 1, 0, none⟩) (by simp) _).setCell (p := ⟨w.heap.size + 1, 1, none⟩) (by simp) _).setCell (p := ⟨w.heap.size + 1, 2, none⟩) (by simp) _).setCell (p := ⟨w.heap.size + 1, 3, none⟩) (by simp) _
              go_wp2
              refine bodyPost_ret (v := .tuple #[.agg #[.string ⟨#[]⟩, .string ⟨#[]⟩, .bool false, .slice none 0 0], .int .i64 pv]) (by simp [results, results101, go_sem, World.cell?_setCell_same, z0, z1, z2, z3]) rfl ⟨?_, hfin⟩
              rw [HC.out.1, HC.out.2, if_neg hpz]
              exact ⟨_, rfl, zero_is _⟩
end
end Go.Proofs.Tryz
