/- Books with a game put, replaced, removed, by the season: by the kit's walk. -/
import Derived.Test.YtbfonnoebbjenaaGreatDoorAxBf
import Derived.Test.YtbfonnoebbjenaaGreatDoorAxBc
import Derived.Test.YtbfonnoebbjenaaGreatDoorAxK
namespace Go.Proofs.Tryz
open Go Go.Am Go.RowKit Go.Op
set_option maxRecDepth 100000

/-- What the checks answer at a list of games. -/
def bkE (A : List GmD) : Int := bookE (atG A) A.length
def fdE (A : List GmD) (nm : List UInt8) : Int := fndK (atG A) nm 0 A.length
theorem bkE_book {A : List GmD} (h : bkE A = 0) : BookL A := by
  have := bookE_book h
  rw [atG_list] at this
  exact this
theorem fdE_cases (A : List GmD) (nm : List UInt8) : (fdE A nm = -1 ∧ ∀ y ∈ A, y.nm ≠ nm) ∨ ∃ (j : Nat) (y : GmD), A[j]? = some y ∧ fdE A nm = (j : Int) ∧ y.nm = nm := by
  rcases fnd_cases (atG A) nm A.length with ⟨e, ha⟩ | ⟨j, hj, e, hn⟩
  · rw [atG_list] at ha
    exact .inl ⟨e, ha⟩
  · exact .inr ⟨j, _, atG_get hj, e, hn⟩
theorem at3 (w : World) (c0 c1 c2 : Array Value) (t0 t1 t2 : TypeId) :
    At (((w.alloc (.cells c0 t0)).alloc (.cells c1 t1)).alloc (.cells c2 t2)) w.heap.size c0 t0 ∧ At (((w.alloc (.cells c0 t0)).alloc (.cells c1 t1)).alloc (.cells c2 t2)) (w.heap.size + 1) c1 t1 ∧ At (((w.alloc (.cells c0 t0)).alloc (.cells c1 t1)).alloc (.cells c2 t2)) (w.heap.size + 1 + 1) c2 t2 ∧ Below w.heap.size w (((w.alloc (.cells c0 t0)).alloc (.cells c1 t1)).alloc (.cells c2 t2)) := by
  refine ⟨((at_new w c0 t0).alloc _).alloc _, ?_, ?_, (((Below.refl _ w).alloc (Nat.le_refl _) _).alloc (by simp) _).alloc (by simp; omega) _⟩
  · have := (at_new (w.alloc (.cells c0 t0)) c1 t1).alloc (.cells c2 t2)
    simpa using this
  · have := at_new ((w.alloc (.cells c0 t0)).alloc (.cells c1 t1)) c2 t2
    simpa using this
theorem res61 {tmps : Array Value} {W : World} {b : Nat} {c0 v : Value} (hp : tmps.getD 4 undef = .pointer (some ⟨b, 0, none⟩)) (hv : tmps.getD 5 undef = v) (hz : At W b #[c0] 31) : (results f61 tmps).run prog W = .ok (.tuple #[.agg #[c0], v]) W := by
  obtain ⟨y0, -⟩ := box1 hz
  simp only [results, show f61.results = #[.cell 4 31, .tmp 5] from rfl]
  have hp' : tmps[4]?.getD undef = .pointer (some ⟨b, 0, none⟩) := by simpa using hp
  have hv' : tmps[5]?.getD undef = v := by simpa using hv
  simp [go_sem, hp', hv', y0]
theorem first5_w (e0 e1 e2 e3 e4 : Int) (b : Nat) (W : World) (h0 : W.cell? ⟨b, 0, none⟩ = some (.int .i64 e0)) (h1 : W.cell? ⟨b, 1, none⟩ = some (.int .i64 e1)) (h2 : W.cell? ⟨b, 2, none⟩ = some (.int .i64 e2)) (h3 : W.cell? ⟨b, 3, none⟩ = some (.int .i64 e3)) (h4 : W.cell? ⟨b, 4, none⟩ = some (.int .i64 e4)) :
    Calls prog 88 #[.slice (some ⟨b, 0, none⟩) 5 5] W fun e w' => e = .returned (.int .i64 (fstE [e0, e1, e2, e3, e4])) ∧ w' = W :=
  first_w [e0, e1, e2, e3, e4] b 5 W (by simp) fun j z h => by
    match j, h with
    | 0, h => simp at h; subst h; exact h0
    | 1, h => simp at h; subst h; exact h1
    | 2, h => simp at h; subst h; exact h2
    | 3, h => simp at h; subst h; exact h3
    | 4, h => simp at h; subst h; exact h4
    | j + 5, h => simp at h
/-- A book that an act has made, or none. -/
def BookA (w' : World) (base : Nat) (u : Value) (x : Int) (P : List GmD → Prop) : Prop := ∃ M, OwnGE w' base 110 132 u M ∧ (x = 0 → P (gmL M) ∧ SortG (gmL M)) ∧ (x ≠ 0 → M = [])
theorem OwnGE.none (w : World) (base e eL : Nat) : OwnGE w base e eL (.slice none 0 0) [] := ⟨OwnRow.start _ _ _ _, fun _ h => absurd h List.not_mem_nil⟩
/-- The errors of the acts. -/
def putC (A : List GmD) (G : GmD) : Int := fstE [bkE A, gmE G, if 0 ≤ fdE A G.nm then 9 else 0, if G.ver = 1 then 0 else 32, if 64 ≤ A.length then 5 else 0]
def repC (A : List GmD) (G : GmD) : Int := if fstE [bkE A, gmE G] = 0 then (if fdE A G.nm < 0 then 10 else if G.ver = (atG A (fdE A G.nm).toNat).ver + 1 then 0 else 32) else fstE [bkE A, gmE G]
def remC (A : List GmD) (nm : List UInt8) : Int := if fstE [bkE A, nmE nm] = 0 then (if fdE A nm < 0 then 10 else 0) else fstE [bkE A, nmE nm]
theorem fst5_zero {a b c d e : Int} (h : fstE [a, b, c, d, e] = 0) : a = 0 ∧ b = 0 ∧ c = 0 ∧ d = 0 ∧ e = 0 := by
  have h2 := fst_every h
  exact ⟨h2 a (by simp), h2 b (by simp), h2 c (by simp), h2 d (by simp), h2 e (by simp)⟩
theorem fst2_zz {a b : Int} (h : fstE [a, b] = 0) : a = 0 ∧ b = 0 := by
  have h2 := fst_every h
  exact ⟨h2 a (by simp), h2 b (by simp)⟩
theorem gm_len {L : List GE} (hk : ∀ x ∈ L, x.g.k ≤ 62 ∧ x.g.nm.length ≤ 60) : ∀ i, i < L.length → (atG (gmL L) i).k ≤ 1000 ∧ (atG (gmL L) i).nm.length ≤ 1000 := fun i hi => by
  rw [gmL_at (List.getElem?_eq_getElem hi)]
  have := hk _ (List.getElem_mem hi)
  omega
theorem book_ge {w : World} {v : Value} {L : List GE} (h : IsGE w v L) (hn : L.length ≤ 66) (hk : ∀ x ∈ L, x.g.k ≤ 62 ∧ x.g.nm.length ≤ 60) : Calls prog 54 #[.agg #[v]] w fun e w' => e = .returned (.int .i64 (bkE (gmL L))) ∧ Below w.heap.size w w' := by
  have := book_w h.is (Nat.le_trans hn (by decide)) (gm_len hk)
  unfold bkE
  rw [gmL_len]
  exact this
theorem index_ge {w : World} {v : Value} {L : List GE} (h : IsGE w v L) (hn : L.length ≤ 66) (nm : List UInt8) : Calls prog 125 #[.agg #[v], .string (bA nm)] w fun e w' => e = .returned (.int .i64 (fdE (gmL L) nm)) ∧ Below w.heap.size w w' := by
  have := indexG_w h.is (Nat.le_trans hn (by decide)) nm
  unfold fdE
  rw [gmL_len]
  exact this
theorem ge_more {w : World} {base e : Nat} {v : Value} {L : List GE} {x : GE} (h : OwnRow w base e 8 v (L.map GE.cells ++ [x.cells])) (hl : LinesIn w L) (hx : IsLines w x.lv x.g.l x.g.k) : IsGE w v (L ++ [x]) := by
  refine ⟨?_, fun y hy => ?_⟩
  · rw [List.map_append]
    exact h.hrow
  · rcases List.mem_append.1 hy with q | q
    · exact hl y q
    · rw [List.mem_singleton.1 q]; exact hx
theorem k_more {L : List GE} {x : GE} (h : ∀ y ∈ L, y.g.k ≤ 62) (hx : x.g.k ≤ 62) : ∀ y ∈ L ++ [x], y.g.k ≤ 1000 := fun y hy => by
  rcases List.mem_append.1 hy with q | q
  · exact Nat.le_trans (h y q) (by decide)
  · rw [List.mem_singleton.1 q]; exact Nat.le_trans hx (by decide)
theorem atN {w : World} {b : Nat} {cs : Array Value} {e : TypeId} (h : At w b cs e) (n : Nat) : At (w.drewN n) b cs e := h
set_option maxHeartbeats 6400000 in
theorem put_w {L : List GE} {G : GmD} {ga : Option Addr} {gc : Nat} {v : Value} {w : World} (h : IsGE w v L) (hn : L.length ≤ 66) (hk : ∀ x ∈ L, x.g.k ≤ 62 ∧ x.g.nm.length ≤ 60) (hG : IsLines w (.slice ga G.k gc) G.l G.k) (hGk : G.k ≤ 62) :
    Calls prog 61 #[.agg #[v], .agg #[.string (bA G.nm), .int .i64 G.ver, .int .i64 G.day, .string (bA G.t0), .string (bA G.t1), .int .i64 G.s0, .int .i64 G.s1, .slice ga G.k gc]] w fun e w' => (∃ u x, e = .returned (.tuple #[.agg #[u], .int .i64 x]) ∧ x = putC (gmL L) G ∧ BookA w' w.heap.size u x (fun M => M.Perm (gmL L ++ [G]))) ∧ Below w.heap.size w w' := by
  have HL := Lib.hid (And.intro h hk)
  have HG := Lib.hid (And.intro hG hGk)
  obtain ⟨va, vc, rfl, hvc⟩ := h.slice
  obtain ⟨n, hln⟩ : ∃ n, L.length = n := ⟨_, rfl⟩
  have HN := Lib.hid hln
  rw [hln] at HL hn hvc ⊢
  obtain ⟨hA, hB, hC, hb1⟩ := at3 w #[.slice va n vc] #[.string (bA G.nm), .int .i64 G.ver, .int .i64 G.day, .string (bA G.t0), .string (bA G.t1), .int .i64 G.s0, .int .i64 G.s1, .slice ga G.k gc] #[.slice none 0 0] 31 110 31
  obtain ⟨W1, hW⟩ : ∃ W1, ((w.alloc (.cells #[.slice va n vc] 31)).alloc (.cells #[.string (bA G.nm), .int .i64 G.ver, .int .i64 G.day, .string (bA G.t0), .string (bA G.t1), .int .i64 G.s0, .int .i64 G.s1, .slice ga G.k gc] 110)).alloc (.cells #[.slice none 0 0] 31) = W1 := ⟨_, rfl⟩
  rw [hW] at hA hB hC hb1
  obtain ⟨E, hE⟩ : ∃ E, bkE (gmL L) = E := ⟨_, rfl⟩
  obtain ⟨E2, hE2⟩ : ∃ E, gmE G = E := ⟨_, rfl⟩
  obtain ⟨K, hK⟩ : ∃ K, fdE (gmL L) G.nm = K := ⟨_, rfl⟩
  have HE := Lib.hid (And.intro hE (And.intro hE2 hK))
  have c54 : ∀ W, Below w.heap.size w W → Calls prog 54 #[.agg #[.slice va n vc]] W fun e w' => e = .returned (.int .i64 E) ∧ Below W.heap.size W w' := fun W hb => by rw [← HE.out.1]; exact book_ge (HL.out.1.below hb) (by rw [HN.out]; exact hn) HL.out.2
  have c55 : ∀ W, Below w.heap.size w W → Calls prog 55 #[.agg #[.string (bA G.nm), .int .i64 G.ver, .int .i64 G.day, .string (bA G.t0), .string (bA G.t1), .int .i64 G.s0, .int .i64 G.s1, .slice ga G.k gc]] W fun e w' => e = .returned (.int .i64 E2) ∧ Below W.heap.size W w' := fun W hb => by rw [← HE.out.2.1]; exact game_w (HG.out.1.below hb) (Nat.le_trans HG.out.2 (by decide))
  have c125 : ∀ W, Below w.heap.size w W → Calls prog 125 #[.agg #[.slice va n vc], .string (bA G.nm)] W fun e w' => e = .returned (.int .i64 K) ∧ Below W.heap.size W w' := fun W hb => by rw [← HE.out.2.2]; exact index_ge (HL.out.1.below hb) (by rw [HN.out]; exact hn) G.nm
  clear h hk hG hGk hln hE hE2 hK
  have cW1 := when_w (decide (0 ≤ K)) 9
  have cW2 := when_w (G.ver != 1) 32
  have cW3 := when_w (decide (64 ≤ (n : Int))) 5
  obtain ⟨x1, hx1⟩ : ∃ x : Int, (if decide (0 ≤ K) = true then 9 else 0) = x := ⟨_, rfl⟩
  obtain ⟨x2, hx2⟩ : ∃ x : Int, (if (G.ver != 1) = true then 32 else 0) = x := ⟨_, rfl⟩
  obtain ⟨x3, hx3⟩ : ∃ x : Int, (if decide (64 ≤ (n : Int)) = true then 5 else 0) = x := ⟨_, rfl⟩
  rw [hx1] at cW1
  rw [hx2] at cW2
  rw [hx3] at cW3
  have cF := first5_w E E2 x1 x2 x3
  obtain ⟨X, hX⟩ : ∃ X, fstE [E, E2, x1, x2, x3] = X := ⟨_, rfl⟩
  rw [hX] at cF
  have HX : Hid (X = putC (gmL L) G) := Lib.hid (by
    unfold putC
    rw [HE.out.1, HE.out.2.1, HE.out.2.2, gmL_len, HN.out, ← hX, ← hx1, ← hx2, ← hx3]
    have q1 : (if decide (0 ≤ K) = true then (9 : Int) else 0) = if 0 ≤ K then 9 else 0 := by simp
    have q2 : (if (G.ver != 1) = true then (32 : Int) else 0) = if G.ver = 1 then 0 else 32 := by by_cases q : G.ver = 1 <;> simp [q]
    have q3 : (if decide (64 ≤ (n : Int)) = true then (5 : Int) else 0) = if 64 ≤ n then 5 else 0 := by
      by_cases q : 64 ≤ n
      · rw [if_pos q, if_pos (by simpa using (show (64 : Int) ≤ (n : Int) by omega))]
      · rw [if_neg q, if_neg (by simpa using (show ¬ (64 : Int) ≤ (n : Int) by omega))]
    rw [q1, q2, q3])
  have HZ : Hid (X = 0 → E = 0 ∧ E2 = 0 ∧ ¬ 0 ≤ K) := Lib.hid (fun h0 => by
    rw [← hX] at h0
    obtain ⟨q1, q2, q3, -, -⟩ := fst5_zero h0
    refine ⟨q1, q2, fun hq => ?_⟩
    rw [← hx1, decide_eq_true hq, if_pos rfl] at q3
    cases q3)
  have hbk : Below w.heap.size w W1.drew := hb1.drew
  clear hx1 hx2 hx3 hX
  go_enter func61, ntmps61
  go_wp2_with fail
  try rw [hW]
  clear hW
  go_cut [6] (fun s6 wx => s6 = .int .i64 X ∧ Below W1.heap.size W1 wx)
  case first =>
    have hdr : Below W1.heap.size W1 W1.drew := (Below.refl _ _).drew
    refine wp_region_quiet_to (C := (fun W => Below W1.heap.size W1 W)) 19 3 #[true, true, true, true, true, true, true, true, true, true, true, true, true, true, true, true, true, true, true, false, false, false] (by kernel_rfl) (by kernel_rfl) ?_ ?_
    · (try dsimp only)
      exact hdr
    simp only [List.take_succ_cons, List.take_zero]
    with_reducible refine quiet_take (v := ?_) ?_ ?_ ?_
    rotate_left
    · rfl
    · (intro w hSw; obtain ⟨x0, -⟩ := box1 (hA.below hSw hA.lt); (try dsimp only at hSw); go_simp); all_goals (with_reducible rfl)
    try simp only [Act.put, List.setIfInBounds_toArray, List.set_cons_zero, List.set_cons_succ]
    with_reducible refine quiet_call (f := 54) (args := ?_) (v := .int .i64 E) ?_ ?_ ?_ ?_
    rotate_left
    · rfl
    · (intro w hSw; (try dsimp only at hSw); go_simp); all_goals (with_reducible rfl)
    · (intro W hSw); exact (c54 W (hb1.trans (hSw.mono hb1.size))).mono fun e w' ⟨h1, h2⟩ => ⟨h1, hSw.trans (h2.mono hSw.size)⟩
    try simp only [Act.put, List.setIfInBounds_toArray, List.set_cons_zero, List.set_cons_succ]
    with_reducible refine quiet_take (v := ?_) ?_ ?_ ?_
    rotate_left
    · rfl
    · (intro w hSw; obtain ⟨⟨z0, z1, z2, z3, z4, z5, z6, z7⟩, -⟩ := box8 (hB.below hSw hB.lt); (try dsimp only at hSw); go_simp); all_goals (with_reducible rfl)
    try simp only [Act.put, List.setIfInBounds_toArray, List.set_cons_zero, List.set_cons_succ]
    with_reducible refine quiet_call (f := 55) (args := ?_) (v := .int .i64 E2) ?_ ?_ ?_ ?_
    rotate_left
    · rfl
    · (intro w hSw; (try dsimp only at hSw); go_simp); all_goals (with_reducible rfl)
    · (intro W hSw); exact (c55 W (hb1.trans (hSw.mono hb1.size))).mono fun e w' ⟨h1, h2⟩ => ⟨h1, hSw.trans (h2.mono hSw.size)⟩
    try simp only [Act.put, List.setIfInBounds_toArray, List.set_cons_zero, List.set_cons_succ]
    with_reducible refine quiet_take (v := ?_) ?_ ?_ ?_
    rotate_left
    · rfl
    · (intro w hSw; obtain ⟨x0, -⟩ := box1 (hA.below hSw hA.lt); (try dsimp only at hSw); go_simp); all_goals (with_reducible rfl)
    try simp only [Act.put, List.setIfInBounds_toArray, List.set_cons_zero, List.set_cons_succ]
    with_reducible refine quiet_take (v := ?_) ?_ ?_ ?_
    rotate_left
    · rfl
    · (intro w hSw; (try dsimp only at hSw); go_simp); all_goals (with_reducible rfl)
    try simp only [Act.put, List.setIfInBounds_toArray, List.set_cons_zero, List.set_cons_succ]
    with_reducible refine quiet_take (v := ?_) ?_ ?_ ?_
    rotate_left
    · rfl
    · (intro w hSw; obtain ⟨⟨z0, z1, z2, z3, z4, z5, z6, z7⟩, -⟩ := box8 (hB.below hSw hB.lt); (try dsimp only at hSw); go_simp); all_goals (with_reducible rfl)
    try simp only [Act.put, List.setIfInBounds_toArray, List.set_cons_zero, List.set_cons_succ]
    with_reducible refine quiet_call (f := 125) (args := ?_) (v := .int .i64 K) ?_ ?_ ?_ ?_
    rotate_left
    · rfl
    · (intro w hSw; (try dsimp only at hSw); go_simp); all_goals (with_reducible rfl)
    · (intro W hSw); exact (c125 W (hb1.trans (hSw.mono hb1.size))).mono fun e w' ⟨h1, h2⟩ => ⟨h1, hSw.trans (h2.mono hSw.size)⟩
    try simp only [Act.put, List.setIfInBounds_toArray, List.set_cons_zero, List.set_cons_succ]
    with_reducible refine quiet_take (v := ?_) ?_ ?_ ?_
    rotate_left
    · rfl
    · (intro w hSw; (try dsimp only at hSw); go_simp); all_goals (with_reducible rfl)
    try simp only [Act.put, List.setIfInBounds_toArray, List.set_cons_zero, List.set_cons_succ]
    with_reducible refine quiet_call (f := 113) (args := ?_) (v := .int .i64 x1) ?_ ?_ ?_ ?_
    rotate_left
    · rfl
    · (intro w hSw; (try dsimp only at hSw); go_simp); all_goals (with_reducible rfl)
    · (intro W hSw); exact (cW1 W).mono fun e w' ⟨h1, h2⟩ => ⟨h1, by rw [h2]; exact hSw⟩
    try simp only [Act.put, List.setIfInBounds_toArray, List.set_cons_zero, List.set_cons_succ]
    with_reducible refine quiet_take (v := ?_) ?_ ?_ ?_
    rotate_left
    · rfl
    · (intro w hSw; (try dsimp only at hSw); go_simp); all_goals (with_reducible rfl)
    try simp only [Act.put, List.setIfInBounds_toArray, List.set_cons_zero, List.set_cons_succ]
    with_reducible refine quiet_take (v := ?_) ?_ ?_ ?_
    rotate_left
    · rfl
    · (intro w hSw; obtain ⟨⟨z0, z1, z2, z3, z4, z5, z6, z7⟩, -⟩ := box8 (hB.below hSw hB.lt); (try dsimp only at hSw); go_simp); all_goals (with_reducible rfl)
    try simp only [Act.put, List.setIfInBounds_toArray, List.set_cons_zero, List.set_cons_succ]
    with_reducible refine quiet_take (v := ?_) ?_ ?_ ?_
    rotate_left
    · rfl
    · (intro w hSw; (try dsimp only at hSw); go_simp); all_goals (with_reducible rfl)
    try simp only [Act.put, List.setIfInBounds_toArray, List.set_cons_zero, List.set_cons_succ]
    with_reducible refine quiet_call (f := 113) (args := ?_) (v := .int .i64 x2) ?_ ?_ ?_ ?_
    rotate_left
    · rfl
    · (intro w hSw; (try dsimp only at hSw); go_simp); all_goals (with_reducible rfl)
    · (intro W hSw); exact (cW2 W).mono fun e w' ⟨h1, h2⟩ => ⟨h1, by rw [h2]; exact hSw⟩
    try simp only [Act.put, List.setIfInBounds_toArray, List.set_cons_zero, List.set_cons_succ]
    with_reducible refine quiet_take (v := ?_) ?_ ?_ ?_
    rotate_left
    · rfl
    · (intro w hSw; (try dsimp only at hSw); go_simp); all_goals (with_reducible rfl)
    try simp only [Act.put, List.setIfInBounds_toArray, List.set_cons_zero, List.set_cons_succ]
    with_reducible refine quiet_take (v := ?_) ?_ ?_ ?_
    rotate_left
    · rfl
    · (intro w hSw; obtain ⟨x0, -⟩ := box1 (hA.below hSw hA.lt); (try dsimp only at hSw); go_simp); all_goals (with_reducible rfl)
    try simp only [Act.put, List.setIfInBounds_toArray, List.set_cons_zero, List.set_cons_succ]
    with_reducible refine quiet_take (v := ?_) ?_ ?_ ?_
    rotate_left
    · rfl
    · (intro w hSw; (try dsimp only at hSw); go_simp); all_goals (with_reducible rfl)
    try simp only [Act.put, List.setIfInBounds_toArray, List.set_cons_zero, List.set_cons_succ]
    with_reducible refine quiet_take (v := ?_) ?_ ?_ ?_
    rotate_left
    · rfl
    · (intro w hSw; (try dsimp only at hSw); go_simp); all_goals (with_reducible rfl)
    try simp only [Act.put, List.setIfInBounds_toArray, List.set_cons_zero, List.set_cons_succ]
    with_reducible refine quiet_call (f := 113) (args := ?_) (v := .int .i64 x3) ?_ ?_ ?_ ?_
    rotate_left
    · rfl
    · (intro w hSw; (try dsimp only at hSw); go_simp); all_goals (with_reducible rfl)
    · (intro W hSw); exact (cW3 W).mono fun e w' ⟨h1, h2⟩ => ⟨h1, by rw [h2]; exact hSw⟩
    try simp only [Act.put, List.setIfInBounds_toArray, List.set_cons_zero, List.set_cons_succ]
    refine wpQuiet_nil ?_
    intro W hSw
    refine wpAny_of_held (S := fun _ => True) _ _ _ _ ?_
    refine wpAnyH_ready (rs := [19]) (by kernel_rfl) (by simp) ?_
    refine AllReadyH.cons (o := _) rfl (fun K hK => ?_) ?_
    · -- buildSlice
      go_simp
      refine hK.out _ _ trivial (fun _ => ?_)
      clear hK K
      try simp only [List.setIfInBounds_toArray, List.set_cons_zero, List.set_cons_succ]
      refine wpAnyH_ready (rs := [20]) (by kernel_rfl) (by simp) ?_
      refine AllReadyH.cons (o := _) rfl (fun K hK => ?_) ?_
      · -- 88
        go_simp
        refine (cF _ _ (by simp) (by simp) (by simp) (by simp) (by simp)).mono ?_; rintro e w' ⟨rfl, rfl⟩
        refine hK.out _ _ trivial (fun _ => ?_)
        clear hK K
        try simp only [List.setIfInBounds_toArray, List.set_cons_zero, List.set_cons_succ]
        refine wpAnyH_ready (rs := [21]) (by kernel_rfl) (by simp) ?_
        refine AllReadyH.cons (o := _) rfl (fun K hK => ?_) ?_
        · -- assign
          go_simp
          refine hK.out _ _ trivial (fun _ => ?_)
          clear hK K
          try simp only [List.setIfInBounds_toArray, List.set_cons_zero, List.set_cons_succ]
          refine wpAnyH_done (by kernel_rfl) ?_ _
          have hb9z := hSw.alloc hSw.size (.cells #[.int .i64 E, .int .i64 E2, .int .i64 x1, .int .i64 x2, .int .i64 x3] 26)
          go_wp2_with fail
          go_meet
          exact ⟨rfl, hb9z⟩
        exact AllReadyH.nil
      exact AllReadyH.nil
    exact AllReadyH.nil
  case rest =>
    obtain ⟨rfl, hbc⟩ := hcut
    have hA := hA.below hbc hA.lt
    have hB := hB.below hbc hB.lt
    have hC := hC.below hbc hC.lt
    have hb := hb1.trans (hbc.mono hb1.size)
    clear c54 c55 c125 cW1 cW2 cW3 cF hbk hbc hb1
    by_cases hX0 : X = 0
    · have HP := Lib.hid (HZ.out hX0)
      subst hX0
      have cC : ∀ W, Below w.heap.size w W → Calls prog 127 #[.slice va n vc] W _ := fun W hb => cloneG_w (HL.out.1.below hb) (by rw [HN.out]; exact Nat.le_trans hn (by decide))
      clear HZ
      go_wp2_with fail
      have hbk := hb.drew
      obtain ⟨iG, TG⟩ := elG
      have HT := Lib.hid TG
      have HNM : Hid (NamesG (gmL (L ++ [(⟨G, ga, gc⟩ : GE)]))) := Lib.hid (by
        unfold gmL
        rw [List.map_append]
        refine names_put (bkE_book (HE.out.1.trans HP.out.1)).names fun y hy => ?_
        rcases fdE_cases (gmL L) G.nm with ⟨-, q⟩ | ⟨j, y2, -, q, -⟩
        · exact q y hy
        · exact absurd (show 0 ≤ K by rw [← HE.out.2.2, q]; omega) (by have := HP.out.2.2; omega))
      clear TG
      refine wp_region_held_drew (S := (fun W => At W w.heap.size #[.slice va n vc] 31 ∧ At W (w.heap.size + 1) #[.string (bA G.nm), .int .i64 G.ver, .int .i64 G.day, .string (bA G.t0), .string (bA G.t1), .int .i64 G.s0, .int .i64 G.s1, .slice ga G.k gc] 110)) (by kernel_rfl) ?_ (fun hHeld => ?_)
      · (try dsimp only)
        exact ⟨hA, hB⟩
      replace hA : At wc.drew _ _ _ := hA
      replace hB : At wc.drew _ _ _ := hB
      replace hC : At wc.drew _ _ _ := hC
      generalize wc.drew = W2 at hA hB hC hbk ⊢
      have hHeld := And.intro hA hB
      refine wpAnyH_take (i := 0) (oi := { dst := some 32, op := Op.fieldAddr 31 (Operand.tmp 2) 0, type := 0, pos := "season.go:177", after := #[], guard := none }) (v := ?_) rfl (by kernel_rfl) (by kernel_rfl) (by kernel_rfl) (fun _ _ _ h => h) (Or.inl ⟨by rfl, ?_⟩) (by assumption) ?_
      rotate_left
      · (intro w hSw; (try dsimp only at hSw); go_simp); all_goals (with_reducible rfl)
      try simp only [Act.put, List.setIfInBounds_toArray, List.set_cons_zero, List.set_cons_succ]
      refine wpAnyH_take (i := 1) (oi := { dst := some 33, op := Op.load 29 (Operand.tmp 32), type := 29, pos := "season.go:177", after := #[{ on := 0, ground := Ground.data }], guard := none }) (v := ?_) rfl (by kernel_rfl) (by kernel_rfl) (by kernel_rfl) (fun _ _ _ h => h) (Or.inl ⟨by rfl, ?_⟩) (by assumption) ?_
      rotate_left
      · (intro w hSw; obtain ⟨x0, -⟩ := box1 hSw.1; (try dsimp only at hSw); go_simp); all_goals (with_reducible rfl)
      try simp only [Act.put, List.setIfInBounds_toArray, List.set_cons_zero, List.set_cons_succ]
      refine wpAnyH_take (i := 3) (oi := { dst := some 35, op := Op.load 110 (Operand.tmp 3), type := 110, pos := "season.go:177", after := #[], guard := none }) (v := ?_) rfl (by kernel_rfl) (by kernel_rfl) (by kernel_rfl) (fun _ _ _ h => h) (Or.inl ⟨by rfl, ?_⟩) (by assumption) ?_
      rotate_left
      · (intro w hSw; obtain ⟨⟨z0, z1, z2, z3, z4, z5, z6, z7⟩, -⟩ := box8 hSw.2; (try dsimp only at hSw); go_simp); all_goals (with_reducible rfl)
      try simp only [Act.put, List.setIfInBounds_toArray, List.set_cons_zero, List.set_cons_succ]
      refine wpAnyH_ready (rs := [2, 4]) (by kernel_rfl) (by simp) ?_
      refine AllReadyH.cons (o := _) rfl (fun K hK => ?_) ?_
      · -- 127
        (go_simp; refine Calls.mono (cC _ hbk) ?_; rintro e W ⟨⟨u, rfl, hu⟩, hk9⟩; have hR := OwnRow.mono (OwnRow.below hu (Below.refl _ _)) (Nat.le_trans hC.lt (Nat.le_refl _)); clear hu; replace hA := hA.below hk9 hA.lt; replace hB := hB.below hk9 hB.lt; replace hC := hC.below hk9 hC.lt; (try replace hX := hX.below hk9 hX.lt); replace hbk := hbk.trans (hk9.mono hbk.size); clear hk9)
        refine hK.out _ _ ?_ (fun hHeld => ?_)
        · (try dsimp only)
          exact ⟨hA, hB⟩
        clear hK K
        try simp only [Act.put, List.setIfInBounds_toArray, List.set_cons_zero, List.set_cons_succ]
        refine wpAnyH_ready (rs := [4]) (by kernel_rfl) (by simp) ?_
        refine AllReadyH.cons (o := { dst := some 36, op := Op.buildSlice 29 1 #[(0, Operand.tmp 35)], type := 29, pos := "season.go:177", after := #[{ on := 3, ground := Ground.data }], guard := none }) rfl (fun K hK => ?_) ?_
        · -- buildSlice
          (go_simp; have hX := newAt8 hbk #[.string (bA G.nm), .int .i64 G.ver, .int .i64 G.day, .string (bA G.t0), .string (bA G.t1), .int .i64 G.s0, .int .i64 G.s1, .slice ga G.k gc] 110; (try simp only [size_alloc9] at hX); (try replace hR := OwnRow.below hR ((Below.refl _ _).alloc (Nat.le_refl _) (.cells #[.string (bA G.nm), .int .i64 G.ver, .int .i64 G.day, .string (bA G.t0), .string (bA G.t1), .int .i64 G.s0, .int .i64 G.s1, .slice ga G.k gc] 110))); replace hA := hA.alloc (.cells #[.string (bA G.nm), .int .i64 G.ver, .int .i64 G.day, .string (bA G.t0), .string (bA G.t1), .int .i64 G.s0, .int .i64 G.s1, .slice ga G.k gc] 110); replace hB := hB.alloc (.cells #[.string (bA G.nm), .int .i64 G.ver, .int .i64 G.day, .string (bA G.t0), .string (bA G.t1), .int .i64 G.s0, .int .i64 G.s1, .slice ga G.k gc] 110); replace hC := hC.alloc (.cells #[.string (bA G.nm), .int .i64 G.ver, .int .i64 G.day, .string (bA G.t0), .string (bA G.t1), .int .i64 G.s0, .int .i64 G.s1, .slice ga G.k gc] 110); replace hbk := hbk.alloc hbk.size (.cells #[.string (bA G.nm), .int .i64 G.ver, .int .i64 G.day, .string (bA G.t0), .string (bA G.t1), .int .i64 G.s0, .int .i64 G.s1, .slice ga G.k gc] 110))
          refine hK.out _ _ ?_ (fun hHeld => ?_)
          · (try dsimp only)
            exact ⟨hA, hB⟩
          clear hK K
          try simp only [Act.put, List.setIfInBounds_toArray, List.set_cons_zero, List.set_cons_succ]
          refine wpAnyH_ready (rs := [5]) (by kernel_rfl) (by simp) ?_
          refine AllReadyH.cons (o := { dst := some 37, op := Op.call { callee := Callee.builtin Builtin.append, args := #[Operand.tmp 34, Operand.tmp 36], argTypes := #[29, 29] }, type := 29, pos := "season.go:177", after := #[{ on := 2, ground := Ground.data }, { on := 4, ground := Ground.data }, { on := 2, ground := Ground.chain }], guard := none }) rfl (fun K hK => ?_) ?_
          · -- append
            (obtain ⟨a9, k9, c9, w9, hrun, hA9⟩ := run_appendR (ty := 29) HT.out _ (w.heap.size + 1 + 1 + 1) _ _ u hR (by rw [List.length_map, HN.out]; omega) ((⟨G, ga, gc⟩ : GE)).cells rfl (GE.one _) hX 1 hC.lt; refine app_step rfl (app_run (s := .tmp 34) (x := .tmp 36) rfl rfl rfl rfl hrun) ?_; replace hA : At w9 w.heap.size _ 31 := (hA9.old _ (by omega) hA.lt).trans hA; replace hB : At w9 (w.heap.size + 1) _ 110 := (hA9.old _ (by omega) hB.lt).trans hB; replace hC : At w9 (w.heap.size + 1 + 1) _ 31 := (hA9.old _ (by omega) hC.lt).trans hC; replace hbk : Below w.heap.size w w9 := hA9.below w hbk (by omega); have hI : IsGE w9 (.slice a9 k9 c9) (L ++ [(⟨G, ga, gc⟩ : GE)]) := ge_more hA9.row (HL.out.1.2.below hbk) (HG.out.1.below hbk); clear hA9 hrun hR hX)
            refine hK.out _ _ ?_ (fun hHeld => ?_)
            · (try dsimp only)
              exact ⟨hA, hB⟩
            clear hK K
            try simp only [Act.put, List.setIfInBounds_toArray, List.set_cons_zero, List.set_cons_succ]
            refine wpAnyH_ready (rs := [6]) (by kernel_rfl) (by simp) ?_
            refine AllReadyH.cons (o := _) rfl (fun K hK => ?_) ?_
            · -- 126
              (go_simp; refine Calls.mono (ordered_w hI (by rw [List.length_append, HN.out, List.length_singleton]; omega) (k_more (fun y hy => (HL.out.2 y hy).1) HG.out.2) HNM.out) ?_; rintro e W ⟨⟨u5, M, rfl, hp, hso, hO⟩, hk9⟩; clear hI; obtain ⟨a5, c5, rfl, -⟩ := hO.ge.slice; replace hO := hO.mono hbk.size; replace hA := hA.below hk9 hA.lt; replace hB := hB.below hk9 hB.lt; replace hC := hC.below hk9 hC.lt; replace hbk := hbk.trans (hk9.mono hbk.size); clear hk9)
              refine hK.out _ _ ?_ (fun hHeld => ?_)
              · (try dsimp only)
                exact ⟨hA, hB⟩
              clear hK K
              try simp only [Act.put, List.setIfInBounds_toArray, List.set_cons_zero, List.set_cons_succ]
              refine wpAnyH_ready (rs := [7]) (by kernel_rfl) (by simp) ?_
              refine AllReadyH.cons (o := { dst := none, op := Op.store 31 (Operand.tmp 4) (Operand.tmp 38), type := 0, pos := "season.go:177", after := #[{ on := 6, ground := Ground.data }, { on := 6, ground := Ground.chain }, { on := 0, ground := Ground.phase }, { on := 1, ground := Ground.phase }, { on := 2, ground := Ground.phase }, { on := 3, ground := Ground.phase }, { on := 4, ground := Ground.phase }, { on := 5, ground := Ground.phase }, { on := 6, ground := Ground.phase }], guard := none }) rfl (fun K hK => ?_) ?_
              · -- store
                (obtain ⟨y0, f0⟩ := box1 hC; go_simp; replace hA := hA.setCell (a := ⟨w.heap.size + 1 + 1, 0, none⟩) (by simp only; omega) (.slice a5 M.length c5); replace hB := hB.setCell (a := ⟨w.heap.size + 1 + 1, 0, none⟩) (by simp only; omega) (.slice a5 M.length c5); replace hO := hO.setCell hC (by decide) (by decide) 0 (.slice a5 M.length c5); replace hC := hC.set 0 (.slice a5 M.length c5); replace hbk := hbk.setCell (p := ⟨w.heap.size + 1 + 1, 0, none⟩) (by simp only; omega) (.slice a5 M.length c5); clear y0 f0)
                refine hK.out _ _ ?_ (fun hHeld => ?_)
                · (try dsimp only)
                  exact ⟨hA, hB⟩
                clear hK K
                try simp only [Act.put, List.setIfInBounds_toArray, List.set_cons_zero, List.set_cons_succ]
                refine wpAnyH_take (i := 8) (oi := { dst := some 5, op := Op.assign (Operand.const (Value.int IntKind.i64 0)), type := 26, pos := "season.go:177", after := #[{ on := 7, ground := Ground.chain }, { on := 0, ground := Ground.phase }, { on := 1, ground := Ground.phase }, { on := 2, ground := Ground.phase }, { on := 3, ground := Ground.phase }, { on := 4, ground := Ground.phase }, { on := 5, ground := Ground.phase }, { on := 6, ground := Ground.phase }, { on := 7, ground := Ground.phase }], guard := none }) (v := ?_) rfl (by kernel_rfl) (by kernel_rfl) (by kernel_rfl) (fun _ _ _ h => h) (Or.inl ⟨by rfl, ?_⟩) (by assumption) ?_
                rotate_left
                · (intro w hSw; (try dsimp only at hSw); go_simp); all_goals (with_reducible rfl)
                try simp only [Act.put, List.setIfInBounds_toArray, List.set_cons_zero, List.set_cons_succ]
                refine wpAnyH_done (by kernel_rfl) ?_ _
                have HFIN : Hid ((gmL M).Perm (gmL L ++ [G])) := Lib.hid (by unfold gmL at hp ⊢; rw [List.map_append] at hp; exact hp)
                clear hp hA hB
                go_wp2_with fail
                exact bodyPost_ret (res61 rfl rfl hC) rfl ⟨⟨_, _, rfl, HX.out, M, hO, fun _ => ⟨HFIN.out, hso⟩, fun e => absurd rfl e⟩, hbk⟩
              exact AllReadyH.nil
            exact AllReadyH.nil
          exact AllReadyH.nil
        exact AllReadyH.nil
      refine AllReadyH.cons (o := { dst := some 36, op := Op.buildSlice 29 1 #[(0, Operand.tmp 35)], type := 29, pos := "season.go:177", after := #[{ on := 3, ground := Ground.data }], guard := none }) rfl (fun K hK => ?_) ?_
      · -- buildSlice
        (go_simp; have hX := newAt8 hbk #[.string (bA G.nm), .int .i64 G.ver, .int .i64 G.day, .string (bA G.t0), .string (bA G.t1), .int .i64 G.s0, .int .i64 G.s1, .slice ga G.k gc] 110; (try simp only [size_alloc9] at hX); (try replace hR := OwnRow.below hR ((Below.refl _ _).alloc (Nat.le_refl _) (.cells #[.string (bA G.nm), .int .i64 G.ver, .int .i64 G.day, .string (bA G.t0), .string (bA G.t1), .int .i64 G.s0, .int .i64 G.s1, .slice ga G.k gc] 110))); replace hA := hA.alloc (.cells #[.string (bA G.nm), .int .i64 G.ver, .int .i64 G.day, .string (bA G.t0), .string (bA G.t1), .int .i64 G.s0, .int .i64 G.s1, .slice ga G.k gc] 110); replace hB := hB.alloc (.cells #[.string (bA G.nm), .int .i64 G.ver, .int .i64 G.day, .string (bA G.t0), .string (bA G.t1), .int .i64 G.s0, .int .i64 G.s1, .slice ga G.k gc] 110); replace hC := hC.alloc (.cells #[.string (bA G.nm), .int .i64 G.ver, .int .i64 G.day, .string (bA G.t0), .string (bA G.t1), .int .i64 G.s0, .int .i64 G.s1, .slice ga G.k gc] 110); replace hbk := hbk.alloc hbk.size (.cells #[.string (bA G.nm), .int .i64 G.ver, .int .i64 G.day, .string (bA G.t0), .string (bA G.t1), .int .i64 G.s0, .int .i64 G.s1, .slice ga G.k gc] 110))
        refine hK.out _ _ ?_ (fun hHeld => ?_)
        · (try dsimp only)
          exact ⟨hA, hB⟩
        clear hK K
        try simp only [Act.put, List.setIfInBounds_toArray, List.set_cons_zero, List.set_cons_succ]
        refine wpAnyH_ready (rs := [2]) (by kernel_rfl) (by simp) ?_
        refine AllReadyH.cons (o := _) rfl (fun K hK => ?_) ?_
        · -- 127
          (go_simp; refine Calls.mono (cC _ hbk) ?_; rintro e W ⟨⟨u, rfl, hu⟩, hk9⟩; have hR := OwnRow.mono (OwnRow.below hu (Below.refl _ _)) (Nat.le_trans hC.lt (Nat.le_refl _)); clear hu; replace hA := hA.below hk9 hA.lt; replace hB := hB.below hk9 hB.lt; replace hC := hC.below hk9 hC.lt; (try replace hX := hX.below hk9 hX.lt); replace hbk := hbk.trans (hk9.mono hbk.size); clear hk9)
          refine hK.out _ _ ?_ (fun hHeld => ?_)
          · (try dsimp only)
            exact ⟨hA, hB⟩
          clear hK K
          try simp only [Act.put, List.setIfInBounds_toArray, List.set_cons_zero, List.set_cons_succ]
          refine wpAnyH_ready (rs := [5]) (by kernel_rfl) (by simp) ?_
          refine AllReadyH.cons (o := { dst := some 37, op := Op.call { callee := Callee.builtin Builtin.append, args := #[Operand.tmp 34, Operand.tmp 36], argTypes := #[29, 29] }, type := 29, pos := "season.go:177", after := #[{ on := 2, ground := Ground.data }, { on := 4, ground := Ground.data }, { on := 2, ground := Ground.chain }], guard := none }) rfl (fun K hK => ?_) ?_
          · -- append
            (obtain ⟨a9, k9, c9, w9, hrun, hA9⟩ := run_appendR (ty := 29) HT.out _ (w.heap.size + 1 + 1 + 1) _ _ u hR (by rw [List.length_map, HN.out]; omega) ((⟨G, ga, gc⟩ : GE)).cells rfl (GE.one _) hX 1 hC.lt; refine app_step rfl (app_run (s := .tmp 34) (x := .tmp 36) rfl rfl rfl rfl hrun) ?_; replace hA : At w9 w.heap.size _ 31 := (hA9.old _ (by omega) hA.lt).trans hA; replace hB : At w9 (w.heap.size + 1) _ 110 := (hA9.old _ (by omega) hB.lt).trans hB; replace hC : At w9 (w.heap.size + 1 + 1) _ 31 := (hA9.old _ (by omega) hC.lt).trans hC; replace hbk : Below w.heap.size w w9 := hA9.below w hbk (by omega); have hI : IsGE w9 (.slice a9 k9 c9) (L ++ [(⟨G, ga, gc⟩ : GE)]) := ge_more hA9.row (HL.out.1.2.below hbk) (HG.out.1.below hbk); clear hA9 hrun hR hX)
            refine hK.out _ _ ?_ (fun hHeld => ?_)
            · (try dsimp only)
              exact ⟨hA, hB⟩
            clear hK K
            try simp only [Act.put, List.setIfInBounds_toArray, List.set_cons_zero, List.set_cons_succ]
            refine wpAnyH_ready (rs := [6]) (by kernel_rfl) (by simp) ?_
            refine AllReadyH.cons (o := _) rfl (fun K hK => ?_) ?_
            · -- 126
              (go_simp; refine Calls.mono (ordered_w hI (by rw [List.length_append, HN.out, List.length_singleton]; omega) (k_more (fun y hy => (HL.out.2 y hy).1) HG.out.2) HNM.out) ?_; rintro e W ⟨⟨u5, M, rfl, hp, hso, hO⟩, hk9⟩; clear hI; obtain ⟨a5, c5, rfl, -⟩ := hO.ge.slice; replace hO := hO.mono hbk.size; replace hA := hA.below hk9 hA.lt; replace hB := hB.below hk9 hB.lt; replace hC := hC.below hk9 hC.lt; replace hbk := hbk.trans (hk9.mono hbk.size); clear hk9)
              refine hK.out _ _ ?_ (fun hHeld => ?_)
              · (try dsimp only)
                exact ⟨hA, hB⟩
              clear hK K
              try simp only [Act.put, List.setIfInBounds_toArray, List.set_cons_zero, List.set_cons_succ]
              refine wpAnyH_ready (rs := [7]) (by kernel_rfl) (by simp) ?_
              refine AllReadyH.cons (o := { dst := none, op := Op.store 31 (Operand.tmp 4) (Operand.tmp 38), type := 0, pos := "season.go:177", after := #[{ on := 6, ground := Ground.data }, { on := 6, ground := Ground.chain }, { on := 0, ground := Ground.phase }, { on := 1, ground := Ground.phase }, { on := 2, ground := Ground.phase }, { on := 3, ground := Ground.phase }, { on := 4, ground := Ground.phase }, { on := 5, ground := Ground.phase }, { on := 6, ground := Ground.phase }], guard := none }) rfl (fun K hK => ?_) ?_
              · -- store
                (obtain ⟨y0, f0⟩ := box1 hC; go_simp; replace hA := hA.setCell (a := ⟨w.heap.size + 1 + 1, 0, none⟩) (by simp only; omega) (.slice a5 M.length c5); replace hB := hB.setCell (a := ⟨w.heap.size + 1 + 1, 0, none⟩) (by simp only; omega) (.slice a5 M.length c5); replace hO := hO.setCell hC (by decide) (by decide) 0 (.slice a5 M.length c5); replace hC := hC.set 0 (.slice a5 M.length c5); replace hbk := hbk.setCell (p := ⟨w.heap.size + 1 + 1, 0, none⟩) (by simp only; omega) (.slice a5 M.length c5); clear y0 f0)
                refine hK.out _ _ ?_ (fun hHeld => ?_)
                · (try dsimp only)
                  exact ⟨hA, hB⟩
                clear hK K
                try simp only [Act.put, List.setIfInBounds_toArray, List.set_cons_zero, List.set_cons_succ]
                refine wpAnyH_take (i := 8) (oi := { dst := some 5, op := Op.assign (Operand.const (Value.int IntKind.i64 0)), type := 26, pos := "season.go:177", after := #[{ on := 7, ground := Ground.chain }, { on := 0, ground := Ground.phase }, { on := 1, ground := Ground.phase }, { on := 2, ground := Ground.phase }, { on := 3, ground := Ground.phase }, { on := 4, ground := Ground.phase }, { on := 5, ground := Ground.phase }, { on := 6, ground := Ground.phase }, { on := 7, ground := Ground.phase }], guard := none }) (v := ?_) rfl (by kernel_rfl) (by kernel_rfl) (by kernel_rfl) (fun _ _ _ h => h) (Or.inl ⟨by rfl, ?_⟩) (by assumption) ?_
                rotate_left
                · (intro w hSw; (try dsimp only at hSw); go_simp); all_goals (with_reducible rfl)
                try simp only [Act.put, List.setIfInBounds_toArray, List.set_cons_zero, List.set_cons_succ]
                refine wpAnyH_done (by kernel_rfl) ?_ _
                have HFIN : Hid ((gmL M).Perm (gmL L ++ [G])) := Lib.hid (by unfold gmL at hp ⊢; rw [List.map_append] at hp; exact hp)
                clear hp hA hB
                go_wp2_with fail
                exact bodyPost_ret (res61 rfl rfl hC) rfl ⟨⟨_, _, rfl, HX.out, M, hO, fun _ => ⟨HFIN.out, hso⟩, fun e => absurd rfl e⟩, hbk⟩
              exact AllReadyH.nil
            exact AllReadyH.nil
          exact AllReadyH.nil
        exact AllReadyH.nil
      exact AllReadyH.nil
    · have hzz : (X != 0) = true := by simpa using hX0
      have hC2 := hC.set 0 (.slice none 0 0)
      have hb2 := hb.setCell (p := ⟨w.heap.size + 1 + 1, 0, none⟩) (by simp only; omega) (.slice none 0 0)
      obtain ⟨y0, f0⟩ := box1 hC
      clear HZ hA hB
      go_wp2_with fail
      exact bodyPost_ret (res61 rfl rfl hC2) rfl ⟨⟨_, _, rfl, HX.out, [], OwnGE.none _ _ _ _, fun e => absurd e hX0, fun _ => rfl⟩, hb2⟩
theorem resB {f : Func} (hf : f.results = #[.cell 4 31, .tmp 5]) {tmps : Array Value} {W : World} {b : Nat} {c0 v : Value} (hp : tmps.getD 4 undef = .pointer (some ⟨b, 0, none⟩)) (hv : tmps.getD 5 undef = v) (hz : At W b #[c0] 31) : (results f tmps).run prog W = .ok (.tuple #[.agg #[c0], v]) W := by
  obtain ⟨y0, -⟩ := box1 hz
  simp only [results, hf]
  have hp' : tmps[4]?.getD undef = .pointer (some ⟨b, 0, none⟩) := by simpa using hp
  have hv' : tmps[5]?.getD undef = v := by simpa using hv
  simp [go_sem, hp', hv', y0]
set_option maxHeartbeats 6400000 in
theorem replace_w {L : List GE} {G : GmD} {ga : Option Addr} {gc : Nat} {v : Value} {w : World} (h : IsGE w v L) (hn : L.length ≤ 66) (hk : ∀ x ∈ L, x.g.k ≤ 62 ∧ x.g.nm.length ≤ 60) (hG : IsLines w (.slice ga G.k gc) G.l G.k) (hGk : G.k ≤ 62) :
    Calls prog 62 #[.agg #[v], .agg #[.string (bA G.nm), .int .i64 G.ver, .int .i64 G.day, .string (bA G.t0), .string (bA G.t1), .int .i64 G.s0, .int .i64 G.s1, .slice ga G.k gc]] w fun e w' => (∃ u x, e = .returned (.tuple #[.agg #[u], .int .i64 x]) ∧ x = repC (gmL L) G ∧ BookA w' w.heap.size u x (fun M => M.Perm ((gmL L).eraseIdx (fdE (gmL L) G.nm).toNat ++ [G]))) ∧ Below w.heap.size w w' := by
  have HL := Lib.hid (And.intro h hk)
  have HG := Lib.hid (And.intro hG hGk)
  obtain ⟨va, vc, rfl, hvc⟩ := h.slice
  obtain ⟨n, hln⟩ : ∃ n, L.length = n := ⟨_, rfl⟩
  have HN := Lib.hid hln
  rw [hln] at HL hn hvc ⊢
  obtain ⟨hA, hB, hC, hb1⟩ := at3 w #[.slice va n vc] #[.string (bA G.nm), .int .i64 G.ver, .int .i64 G.day, .string (bA G.t0), .string (bA G.t1), .int .i64 G.s0, .int .i64 G.s1, .slice ga G.k gc] #[.slice none 0 0] 31 110 31
  obtain ⟨W1, hW⟩ : ∃ W1, ((w.alloc (.cells #[.slice va n vc] 31)).alloc (.cells #[.string (bA G.nm), .int .i64 G.ver, .int .i64 G.day, .string (bA G.t0), .string (bA G.t1), .int .i64 G.s0, .int .i64 G.s1, .slice ga G.k gc] 110)).alloc (.cells #[.slice none 0 0] 31) = W1 := ⟨_, rfl⟩
  rw [hW] at hA hB hC hb1
  obtain ⟨E, hE⟩ : ∃ E, bkE (gmL L) = E := ⟨_, rfl⟩
  obtain ⟨E2, hE2⟩ : ∃ E, gmE G = E := ⟨_, rfl⟩
  obtain ⟨K, hK⟩ : ∃ K, fdE (gmL L) G.nm = K := ⟨_, rfl⟩
  have HE := Lib.hid (And.intro hE (And.intro hE2 hK))
  have c54 : ∀ W, Below w.heap.size w W → Calls prog 54 #[.agg #[.slice va n vc]] W fun e w' => e = .returned (.int .i64 E) ∧ Below W.heap.size W w' := fun W hb => by rw [← HE.out.1]; exact book_ge (HL.out.1.below hb) (by rw [HN.out]; exact hn) HL.out.2
  have c55 : ∀ W, Below w.heap.size w W → Calls prog 55 #[.agg #[.string (bA G.nm), .int .i64 G.ver, .int .i64 G.day, .string (bA G.t0), .string (bA G.t1), .int .i64 G.s0, .int .i64 G.s1, .slice ga G.k gc]] W fun e w' => e = .returned (.int .i64 E2) ∧ Below W.heap.size W w' := fun W hb => by rw [← HE.out.2.1]; exact game_w (HG.out.1.below hb) (Nat.le_trans HG.out.2 (by decide))
  have c125 : ∀ W, Below w.heap.size w W → Calls prog 125 #[.agg #[.slice va n vc], .string (bA G.nm)] W fun e w' => e = .returned (.int .i64 K) ∧ Below W.heap.size W w' := fun W hb => by rw [← HE.out.2.2]; exact index_ge (HL.out.1.below hb) (by rw [HN.out]; exact hn) G.nm
  clear h hk hG hGk hln hE hE2 hK
  have cF := first2_w E E2
  obtain ⟨X, hX⟩ : ∃ X, fstE [E, E2] = X := ⟨_, rfl⟩
  rw [hX] at cF
  have HX : Hid (repC (gmL L) G = if X = 0 then (if K < 0 then 10 else if G.ver = (atG (gmL L) K.toNat).ver + 1 then 0 else 32) else X) := Lib.hid (by
    unfold repC
    rw [HE.out.1, HE.out.2.1, HE.out.2.2, hX])
  have HZ : Hid (X = 0 → E = 0 ∧ E2 = 0) := Lib.hid (fun h0 => by
    rw [← hX] at h0
    exact fst2_zz h0)
  clear hX
  go_enter func62, ntmps62
  go_wp2_with fail
  try rw [hW]
  clear hW
  go_cut [6] (fun s6 wx => s6 = .int .i64 X ∧ Below W1.heap.size W1 wx)
  case first =>
    have hdr : Below W1.heap.size W1 W1.drew := (Below.refl _ _).drew
    refine wp_region_quiet_to (C := (fun W => Below W1.heap.size W1 W)) 4 3 #[true, true, true, true, false, false, false] (by kernel_rfl) (by kernel_rfl) ?_ ?_
    · (try dsimp only)
      exact hdr
    simp only [List.take_succ_cons, List.take_zero]
    with_reducible refine quiet_take (v := ?_) ?_ ?_ ?_
    rotate_left
    · rfl
    · (intro w hSw; obtain ⟨x0, -⟩ := box1 (hA.below hSw hA.lt); (try dsimp only at hSw); go_simp); all_goals (with_reducible rfl)
    try simp only [Act.put, List.setIfInBounds_toArray, List.set_cons_zero, List.set_cons_succ]
    with_reducible refine quiet_call (f := 54) (args := ?_) (v := .int .i64 E) ?_ ?_ ?_ ?_
    rotate_left
    · rfl
    · (intro w hSw; (try dsimp only at hSw); go_simp); all_goals (with_reducible rfl)
    · (intro W hSw); exact (c54 W (hb1.trans (hSw.mono hb1.size))).mono fun e w' ⟨h1, h2⟩ => ⟨h1, hSw.trans (h2.mono hSw.size)⟩
    try simp only [Act.put, List.setIfInBounds_toArray, List.set_cons_zero, List.set_cons_succ]
    with_reducible refine quiet_take (v := ?_) ?_ ?_ ?_
    rotate_left
    · rfl
    · (intro w hSw; obtain ⟨⟨z0, z1, z2, z3, z4, z5, z6, z7⟩, -⟩ := box8 (hB.below hSw hB.lt); (try dsimp only at hSw); go_simp); all_goals (with_reducible rfl)
    try simp only [Act.put, List.setIfInBounds_toArray, List.set_cons_zero, List.set_cons_succ]
    with_reducible refine quiet_call (f := 55) (args := ?_) (v := .int .i64 E2) ?_ ?_ ?_ ?_
    rotate_left
    · rfl
    · (intro w hSw; (try dsimp only at hSw); go_simp); all_goals (with_reducible rfl)
    · (intro W hSw); exact (c55 W (hb1.trans (hSw.mono hb1.size))).mono fun e w' ⟨h1, h2⟩ => ⟨h1, hSw.trans (h2.mono hSw.size)⟩
    try simp only [Act.put, List.setIfInBounds_toArray, List.set_cons_zero, List.set_cons_succ]
    refine wpQuiet_nil ?_
    intro W hSw
    refine wpAny_of_held (S := fun _ => True) _ _ _ _ ?_
    refine wpAnyH_ready (rs := [4]) (by kernel_rfl) (by simp) ?_
    refine AllReadyH.cons (o := _) rfl (fun K hK => ?_) ?_
    · -- buildSlice
      go_simp
      refine hK.out _ _ trivial (fun _ => ?_)
      clear hK K
      try simp only [List.setIfInBounds_toArray, List.set_cons_zero, List.set_cons_succ]
      refine wpAnyH_ready (rs := [5]) (by kernel_rfl) (by simp) ?_
      refine AllReadyH.cons (o := _) rfl (fun K hK => ?_) ?_
      · -- 88
        go_simp
        refine (cF _ _ (by simp) (by simp)).mono ?_; rintro e w' ⟨rfl, rfl⟩
        refine hK.out _ _ trivial (fun _ => ?_)
        clear hK K
        try simp only [List.setIfInBounds_toArray, List.set_cons_zero, List.set_cons_succ]
        refine wpAnyH_ready (rs := [6]) (by kernel_rfl) (by simp) ?_
        refine AllReadyH.cons (o := _) rfl (fun K hK => ?_) ?_
        · -- assign
          go_simp
          refine hK.out _ _ trivial (fun _ => ?_)
          clear hK K
          try simp only [List.setIfInBounds_toArray, List.set_cons_zero, List.set_cons_succ]
          refine wpAnyH_done (by kernel_rfl) ?_ _
          have hb9z := hSw.alloc hSw.size (.cells #[.int .i64 E, .int .i64 E2] 26)
          go_wp2_with fail
          go_meet
          exact ⟨rfl, hb9z⟩
        exact AllReadyH.nil
      exact AllReadyH.nil
    exact AllReadyH.nil
  case rest =>
    obtain ⟨rfl, hbc⟩ := hcut
    have hA := hA.below hbc hA.lt
    have hB := hB.below hbc hB.lt
    have hC := hC.below hbc hC.lt
    have hb := hb1.trans (hbc.mono hb1.size)
    clear c54 c55 cF hbc hb1
    by_cases hX0 : X = 0
    · have HP := Lib.hid (HZ.out hX0)
      have HX2 : Hid (repC (gmL L) G = if K < 0 then 10 else if G.ver = (atG (gmL L) K.toNat).ver + 1 then 0 else 32) := Lib.hid (by rw [HX.out, if_pos hX0])
      subst hX0
      obtain ⟨x0, -⟩ := box1 hA
      obtain ⟨⟨z0, z1, z2, z3, z4, z5, z6, z7⟩, -⟩ := box8 hB
      clear HZ HX
      go_wp2_with fail
      go_at_call 125
      refine (c125 _ hb).mono ?_
      rintro e W5 ⟨rfl, hk5⟩
      have hA := hA.below hk5 hA.lt
      have hB := hB.below hk5 hB.lt
      have hC := hC.below hk5 hC.lt
      have hb := hb.trans (hk5.mono hb.size)
      clear c125 hk5 x0 z0 z1 z2 z3 z4 z5 z6 z7
      have HF := Lib.hid (fdE_cases (gmL L) G.nm)
      by_cases hK0 : K < 0
      · have HX3 : Hid ((10 : Int) = repC (gmL L) G) := Lib.hid (by rw [HX2.out, if_pos hK0])
        have hC2 := hC.set 0 (.slice none 0 0)
        have hb2 := hb.setCell (p := ⟨w.heap.size + 1 + 1, 0, none⟩) (by simp only; omega) (.slice none 0 0)
        obtain ⟨y0, f0⟩ := box1 hC
        clear hA hB
        go_wp2_with fail
        exact bodyPost_ret (resB rfl rfl rfl hC2) rfl ⟨⟨_, _, rfl, HX3.out, [], OwnGE.none _ _ _ _, fun e => absurd e (by decide), fun _ => rfl⟩, hb2⟩
      · obtain ⟨j, yg, hj, hfj, hjn⟩ : ∃ (j : Nat) (y : GmD), (gmL L)[j]? = some y ∧ fdE (gmL L) G.nm = (j : Int) ∧ y.nm = G.nm := by
          rcases HF.out with ⟨q, -⟩ | q
          · rw [HE.out.2.2] at q; omega
          · exact q
        have hKj : K = (j : Int) := by rw [← HE.out.2.2]; exact hfj
        subst hKj
        have hjl : j < n := by
          have := (List.getElem?_eq_some_iff.1 hj).1
          rw [gmL_len, HN.out] at this
          exact this
        have hyv : atG (gmL L) j = yg := by unfold atG; rw [hj]; rfl
        obtain ⟨b, off, c1, a1, kc, e1, -, -, p0, p1, p2, p3, p4, p5, p6, p7⟩ := (HL.out.1.below hb).is.at (i := j) (by rw [HN.out]; exact hjl)
        rw [HN.out] at e1
        simp only [Value.slice.injEq, true_and] at e1
        obtain ⟨rfl, rfl⟩ := e1
        rw [hyv] at p1
        have HB := Lib.hid (bkE_book (HE.out.1.trans HP.out.1))
        have hvr := (gm_head (HB.out.ok yg (List.mem_of_getElem? hj))).2.1
        have HJ := Lib.hid (And.intro hj (And.intro hfj hjn))
        have HX3 : Hid (repC (gmL L) G = if G.ver = yg.ver + 1 then 0 else 32) := Lib.hid (by
          rw [HX2.out, if_neg hK0, Int.toNat_natCast, hyv])
        obtain ⟨yv, hyv2⟩ : ∃ z, yg.ver = z := ⟨_, rfl⟩
        rw [hyv2] at p1 hvr HX3
        have i3 : IntKind.i64.wrap (yv + 1) = yv + 1 := IntWalk.i64_in _ (by omega)
        have i4 : (j : Int) < (n : Int) := by omega
        obtain ⟨x0, -⟩ := box1 hA
        obtain ⟨⟨z0, z1, z2, z3, z4, z5, z6, z7⟩, -⟩ := box8 hB
        clear hj hfj hjn hyv hyv2 p0 p2 p3 p4 p5 p6 p7 HX2 HF
        by_cases hv0 : G.ver = yv + 1
        · have hvv : (G.ver != yv + 1) = false := by simpa using hv0
          have HX4 : Hid ((0 : Int) = repC (gmL L) G) := Lib.hid (by rw [HX3.out, if_pos hv0])
          clear hv0
          have cC : ∀ W, Below w.heap.size w W → Calls prog 128 #[.agg #[.slice (some ⟨b, off, none⟩) n vc], .int .i64 (j : Int)] W _ := fun W hb => withoutG_w (i := j) (HL.out.1.below hb) (by rw [HN.out]; exact Nat.le_trans hn (by decide)) (by rw [HN.out]; exact hjl)
          go_wp2_with fail
          go_quiet (fail)
          have hb := belowN hb nq
          replace hA := atN hA nq
          replace hB := atN hB nq
          replace hC := atN hC nq
          clear x0 z0 z1 z2 z3 z4 z5 z6 z7 p1
          generalize W5.drewN nq = W6 at hA hB hC hb ⊢
          go_wp2_with fail
          have hbk := hb.drew
          obtain ⟨iG, TG⟩ := elG
          have HT := Lib.hid TG
          have HNM : Hid (NamesG (gmL (L.eraseIdx j ++ [(⟨G, ga, gc⟩ : GE)]))) := Lib.hid (by
            have := names_rep HB.out.names HJ.out.1 HJ.out.2.2
            rw [← gmL_erase] at this
            unfold gmL at this ⊢
            rw [List.map_append]
            exact this)
          clear TG
          refine wp_region_held_drew (S := (fun W => At W w.heap.size #[.slice (some ⟨b, off, none⟩) n vc] 31 ∧ At W (w.heap.size + 1) #[.string (bA G.nm), .int .i64 G.ver, .int .i64 G.day, .string (bA G.t0), .string (bA G.t1), .int .i64 G.s0, .int .i64 G.s1, .slice ga G.k gc] 110)) (by kernel_rfl) ?_ (fun hHeld => ?_)
          · (try dsimp only)
            exact ⟨hA, hB⟩
          replace hA : At W6.drew _ _ _ := hA
          replace hB : At W6.drew _ _ _ := hB
          replace hC : At W6.drew _ _ _ := hC
          generalize W6.drew = W2 at hA hB hC hbk ⊢
          have hHeld := And.intro hA hB
          refine wpAnyH_take (i := 0) (oi := { dst := some 36, op := Op.load 31 (Operand.tmp 2), type := 31, pos := "season.go:192", after := #[], guard := none }) (v := ?_) rfl (by kernel_rfl) (by kernel_rfl) (by kernel_rfl) (fun _ _ _ h => h) (Or.inl ⟨by rfl, ?_⟩) (by assumption) ?_
          rotate_left
          · (intro w hSw; obtain ⟨x0, -⟩ := box1 hSw.1; (try dsimp only at hSw); go_simp); all_goals (with_reducible rfl)
          try simp only [Act.put, List.setIfInBounds_toArray, List.set_cons_zero, List.set_cons_succ]
          refine wpAnyH_take (i := 1) (oi := { dst := some 37, op := Op.move (Operand.tmp 7), type := 3, pos := "season.go:192", after := #[], guard := none }) (v := ?_) rfl (by kernel_rfl) (by kernel_rfl) (by kernel_rfl) (fun _ _ _ h => h) (Or.inl ⟨by rfl, ?_⟩) (by assumption) ?_
          rotate_left
          · (intro w hSw; (try dsimp only at hSw); go_simp); all_goals (with_reducible rfl)
          try simp only [Act.put, List.setIfInBounds_toArray, List.set_cons_zero, List.set_cons_succ]
          refine wpAnyH_take (i := 3) (oi := { dst := some 39, op := Op.load 110 (Operand.tmp 3), type := 110, pos := "season.go:192", after := #[], guard := none }) (v := ?_) rfl (by kernel_rfl) (by kernel_rfl) (by kernel_rfl) (fun _ _ _ h => h) (Or.inl ⟨by rfl, ?_⟩) (by assumption) ?_
          rotate_left
          · (intro w hSw; obtain ⟨⟨z0, z1, z2, z3, z4, z5, z6, z7⟩, -⟩ := box8 hSw.2; (try dsimp only at hSw); go_simp); all_goals (with_reducible rfl)
          try simp only [Act.put, List.setIfInBounds_toArray, List.set_cons_zero, List.set_cons_succ]
          refine wpAnyH_ready (rs := [2, 4]) (by kernel_rfl) (by simp) ?_
          refine AllReadyH.cons (o := _) rfl (fun K hK => ?_) ?_
          · -- 128
            (go_simp; refine Calls.mono (cC _ hbk) ?_; rintro e W ⟨⟨u, rfl, hu⟩, hk9⟩; have hR := OwnRow.mono (OwnRow.below hu (Below.refl _ _)) (Nat.le_trans hC.lt (Nat.le_refl _)); clear hu; replace hA := hA.below hk9 hA.lt; replace hB := hB.below hk9 hB.lt; replace hC := hC.below hk9 hC.lt; (try replace hX := hX.below hk9 hX.lt); replace hbk := hbk.trans (hk9.mono hbk.size); clear hk9)
            refine hK.out _ _ ?_ (fun hHeld => ?_)
            · (try dsimp only)
              exact ⟨hA, hB⟩
            clear hK K
            try simp only [Act.put, List.setIfInBounds_toArray, List.set_cons_zero, List.set_cons_succ]
            refine wpAnyH_ready (rs := [4]) (by kernel_rfl) (by simp) ?_
            refine AllReadyH.cons (o := { dst := some 40, op := Op.buildSlice 29 1 #[(0, Operand.tmp 39)], type := 29, pos := "season.go:192", after := #[{ on := 3, ground := Ground.data }], guard := none }) rfl (fun K hK => ?_) ?_
            · -- buildSlice
              (go_simp; have hX := newAt8 hbk #[.string (bA G.nm), .int .i64 G.ver, .int .i64 G.day, .string (bA G.t0), .string (bA G.t1), .int .i64 G.s0, .int .i64 G.s1, .slice ga G.k gc] 110; (try simp only [size_alloc9] at hX); (try replace hR := OwnRow.below hR ((Below.refl _ _).alloc (Nat.le_refl _) (.cells #[.string (bA G.nm), .int .i64 G.ver, .int .i64 G.day, .string (bA G.t0), .string (bA G.t1), .int .i64 G.s0, .int .i64 G.s1, .slice ga G.k gc] 110))); replace hA := hA.alloc (.cells #[.string (bA G.nm), .int .i64 G.ver, .int .i64 G.day, .string (bA G.t0), .string (bA G.t1), .int .i64 G.s0, .int .i64 G.s1, .slice ga G.k gc] 110); replace hB := hB.alloc (.cells #[.string (bA G.nm), .int .i64 G.ver, .int .i64 G.day, .string (bA G.t0), .string (bA G.t1), .int .i64 G.s0, .int .i64 G.s1, .slice ga G.k gc] 110); replace hC := hC.alloc (.cells #[.string (bA G.nm), .int .i64 G.ver, .int .i64 G.day, .string (bA G.t0), .string (bA G.t1), .int .i64 G.s0, .int .i64 G.s1, .slice ga G.k gc] 110); replace hbk := hbk.alloc hbk.size (.cells #[.string (bA G.nm), .int .i64 G.ver, .int .i64 G.day, .string (bA G.t0), .string (bA G.t1), .int .i64 G.s0, .int .i64 G.s1, .slice ga G.k gc] 110))
              refine hK.out _ _ ?_ (fun hHeld => ?_)
              · (try dsimp only)
                exact ⟨hA, hB⟩
              clear hK K
              try simp only [Act.put, List.setIfInBounds_toArray, List.set_cons_zero, List.set_cons_succ]
              refine wpAnyH_ready (rs := [5]) (by kernel_rfl) (by simp) ?_
              refine AllReadyH.cons (o := { dst := some 41, op := Op.call { callee := Callee.builtin Builtin.append, args := #[Operand.tmp 38, Operand.tmp 40], argTypes := #[29, 29] }, type := 29, pos := "season.go:192", after := #[{ on := 2, ground := Ground.data }, { on := 4, ground := Ground.data }, { on := 2, ground := Ground.chain }], guard := none }) rfl (fun K hK => ?_) ?_
              · -- append
                (obtain ⟨a9, k9, c9, w9, hrun, hA9⟩ := run_appendR (ty := 29) HT.out _ (w.heap.size + 1 + 1 + 1) _ _ u hR (by rw [List.length_map, List.length_eraseIdx]; have := HN.out; split <;> omega) ((⟨G, ga, gc⟩ : GE)).cells rfl (GE.one _) hX 1 hC.lt; refine app_step rfl (app_run (s := .tmp 38) (x := .tmp 40) rfl rfl rfl rfl hrun) ?_; replace hA : At w9 w.heap.size _ 31 := (hA9.old _ (by omega) hA.lt).trans hA; replace hB : At w9 (w.heap.size + 1) _ 110 := (hA9.old _ (by omega) hB.lt).trans hB; replace hC : At w9 (w.heap.size + 1 + 1) _ 31 := (hA9.old _ (by omega) hC.lt).trans hC; replace hbk : Below w.heap.size w w9 := hA9.below w hbk (by omega); have hI : IsGE w9 (.slice a9 k9 c9) (L.eraseIdx j ++ [(⟨G, ga, gc⟩ : GE)]) := ge_more hA9.row (lines_sub (HL.out.1.2.below hbk) (fun x hx => (List.eraseIdx_sublist _ _).mem hx)) (HG.out.1.below hbk); clear hA9 hrun hR hX)
                refine hK.out _ _ ?_ (fun hHeld => ?_)
                · (try dsimp only)
                  exact ⟨hA, hB⟩
                clear hK K
                try simp only [Act.put, List.setIfInBounds_toArray, List.set_cons_zero, List.set_cons_succ]
                refine wpAnyH_ready (rs := [6]) (by kernel_rfl) (by simp) ?_
                refine AllReadyH.cons (o := _) rfl (fun K hK => ?_) ?_
                · -- 126
                  (go_simp; refine Calls.mono (ordered_w hI (by rw [List.length_append, List.length_eraseIdx, List.length_singleton]; have := HN.out; split <;> omega) (k_more (fun y hy => (HL.out.2 y ((List.eraseIdx_sublist _ _).mem hy)).1) HG.out.2) HNM.out) ?_; rintro e W ⟨⟨u5, M, rfl, hp, hso, hO⟩, hk9⟩; clear hI; obtain ⟨a5, c5, rfl, -⟩ := hO.ge.slice; replace hO := hO.mono hbk.size; replace hA := hA.below hk9 hA.lt; replace hB := hB.below hk9 hB.lt; replace hC := hC.below hk9 hC.lt; replace hbk := hbk.trans (hk9.mono hbk.size); clear hk9)
                  refine hK.out _ _ ?_ (fun hHeld => ?_)
                  · (try dsimp only)
                    exact ⟨hA, hB⟩
                  clear hK K
                  try simp only [Act.put, List.setIfInBounds_toArray, List.set_cons_zero, List.set_cons_succ]
                  refine wpAnyH_ready (rs := [7]) (by kernel_rfl) (by simp) ?_
                  refine AllReadyH.cons (o := { dst := none, op := Op.store 31 (Operand.tmp 4) (Operand.tmp 42), type := 0, pos := "season.go:192", after := #[{ on := 6, ground := Ground.data }, { on := 6, ground := Ground.chain }, { on := 0, ground := Ground.phase }, { on := 1, ground := Ground.phase }, { on := 2, ground := Ground.phase }, { on := 3, ground := Ground.phase }, { on := 4, ground := Ground.phase }, { on := 5, ground := Ground.phase }, { on := 6, ground := Ground.phase }], guard := none }) rfl (fun K hK => ?_) ?_
                  · -- store
                    (obtain ⟨y0, f0⟩ := box1 hC; go_simp; replace hA := hA.setCell (a := ⟨w.heap.size + 1 + 1, 0, none⟩) (by simp only; omega) (.slice a5 M.length c5); replace hB := hB.setCell (a := ⟨w.heap.size + 1 + 1, 0, none⟩) (by simp only; omega) (.slice a5 M.length c5); replace hO := hO.setCell hC (by decide) (by decide) 0 (.slice a5 M.length c5); replace hC := hC.set 0 (.slice a5 M.length c5); replace hbk := hbk.setCell (p := ⟨w.heap.size + 1 + 1, 0, none⟩) (by simp only; omega) (.slice a5 M.length c5); clear y0 f0)
                    refine hK.out _ _ ?_ (fun hHeld => ?_)
                    · (try dsimp only)
                      exact ⟨hA, hB⟩
                    clear hK K
                    try simp only [Act.put, List.setIfInBounds_toArray, List.set_cons_zero, List.set_cons_succ]
                    refine wpAnyH_take (i := 8) (oi := { dst := some 5, op := Op.assign (Operand.const (Value.int IntKind.i64 0)), type := 26, pos := "season.go:192", after := #[{ on := 7, ground := Ground.chain }, { on := 0, ground := Ground.phase }, { on := 1, ground := Ground.phase }, { on := 2, ground := Ground.phase }, { on := 3, ground := Ground.phase }, { on := 4, ground := Ground.phase }, { on := 5, ground := Ground.phase }, { on := 6, ground := Ground.phase }, { on := 7, ground := Ground.phase }], guard := none }) (v := ?_) rfl (by kernel_rfl) (by kernel_rfl) (by kernel_rfl) (fun _ _ _ h => h) (Or.inl ⟨by rfl, ?_⟩) (by assumption) ?_
                    rotate_left
                    · (intro w hSw; (try dsimp only at hSw); go_simp); all_goals (with_reducible rfl)
                    try simp only [Act.put, List.setIfInBounds_toArray, List.set_cons_zero, List.set_cons_succ]
                    refine wpAnyH_done (by kernel_rfl) ?_ _
                    have HFIN : Hid ((gmL M).Perm ((gmL L).eraseIdx (fdE (gmL L) G.nm).toNat ++ [G])) := Lib.hid (by
                      rw [HJ.out.2.1, Int.toNat_natCast, ← gmL_erase]
                      unfold gmL at hp ⊢
                      rw [List.map_append] at hp
                      exact hp)
                    clear hp hA hB
                    go_wp2_with fail
                    exact bodyPost_ret (resB rfl rfl rfl hC) rfl ⟨⟨_, _, rfl, HX4.out, M, hO, fun _ => ⟨HFIN.out, hso⟩, fun e => absurd rfl e⟩, hbk⟩
                  exact AllReadyH.nil
                exact AllReadyH.nil
              exact AllReadyH.nil
            exact AllReadyH.nil
          refine AllReadyH.cons (o := { dst := some 40, op := Op.buildSlice 29 1 #[(0, Operand.tmp 39)], type := 29, pos := "season.go:192", after := #[{ on := 3, ground := Ground.data }], guard := none }) rfl (fun K hK => ?_) ?_
          · -- buildSlice
            (go_simp; have hX := newAt8 hbk #[.string (bA G.nm), .int .i64 G.ver, .int .i64 G.day, .string (bA G.t0), .string (bA G.t1), .int .i64 G.s0, .int .i64 G.s1, .slice ga G.k gc] 110; (try simp only [size_alloc9] at hX); (try replace hR := OwnRow.below hR ((Below.refl _ _).alloc (Nat.le_refl _) (.cells #[.string (bA G.nm), .int .i64 G.ver, .int .i64 G.day, .string (bA G.t0), .string (bA G.t1), .int .i64 G.s0, .int .i64 G.s1, .slice ga G.k gc] 110))); replace hA := hA.alloc (.cells #[.string (bA G.nm), .int .i64 G.ver, .int .i64 G.day, .string (bA G.t0), .string (bA G.t1), .int .i64 G.s0, .int .i64 G.s1, .slice ga G.k gc] 110); replace hB := hB.alloc (.cells #[.string (bA G.nm), .int .i64 G.ver, .int .i64 G.day, .string (bA G.t0), .string (bA G.t1), .int .i64 G.s0, .int .i64 G.s1, .slice ga G.k gc] 110); replace hC := hC.alloc (.cells #[.string (bA G.nm), .int .i64 G.ver, .int .i64 G.day, .string (bA G.t0), .string (bA G.t1), .int .i64 G.s0, .int .i64 G.s1, .slice ga G.k gc] 110); replace hbk := hbk.alloc hbk.size (.cells #[.string (bA G.nm), .int .i64 G.ver, .int .i64 G.day, .string (bA G.t0), .string (bA G.t1), .int .i64 G.s0, .int .i64 G.s1, .slice ga G.k gc] 110))
            refine hK.out _ _ ?_ (fun hHeld => ?_)
            · (try dsimp only)
              exact ⟨hA, hB⟩
            clear hK K
            try simp only [Act.put, List.setIfInBounds_toArray, List.set_cons_zero, List.set_cons_succ]
            refine wpAnyH_ready (rs := [2]) (by kernel_rfl) (by simp) ?_
            refine AllReadyH.cons (o := _) rfl (fun K hK => ?_) ?_
            · -- 128
              (go_simp; refine Calls.mono (cC _ hbk) ?_; rintro e W ⟨⟨u, rfl, hu⟩, hk9⟩; have hR := OwnRow.mono (OwnRow.below hu (Below.refl _ _)) (Nat.le_trans hC.lt (Nat.le_refl _)); clear hu; replace hA := hA.below hk9 hA.lt; replace hB := hB.below hk9 hB.lt; replace hC := hC.below hk9 hC.lt; (try replace hX := hX.below hk9 hX.lt); replace hbk := hbk.trans (hk9.mono hbk.size); clear hk9)
              refine hK.out _ _ ?_ (fun hHeld => ?_)
              · (try dsimp only)
                exact ⟨hA, hB⟩
              clear hK K
              try simp only [Act.put, List.setIfInBounds_toArray, List.set_cons_zero, List.set_cons_succ]
              refine wpAnyH_ready (rs := [5]) (by kernel_rfl) (by simp) ?_
              refine AllReadyH.cons (o := { dst := some 41, op := Op.call { callee := Callee.builtin Builtin.append, args := #[Operand.tmp 38, Operand.tmp 40], argTypes := #[29, 29] }, type := 29, pos := "season.go:192", after := #[{ on := 2, ground := Ground.data }, { on := 4, ground := Ground.data }, { on := 2, ground := Ground.chain }], guard := none }) rfl (fun K hK => ?_) ?_
              · -- append
                (obtain ⟨a9, k9, c9, w9, hrun, hA9⟩ := run_appendR (ty := 29) HT.out _ (w.heap.size + 1 + 1 + 1) _ _ u hR (by rw [List.length_map, List.length_eraseIdx]; have := HN.out; split <;> omega) ((⟨G, ga, gc⟩ : GE)).cells rfl (GE.one _) hX 1 hC.lt; refine app_step rfl (app_run (s := .tmp 38) (x := .tmp 40) rfl rfl rfl rfl hrun) ?_; replace hA : At w9 w.heap.size _ 31 := (hA9.old _ (by omega) hA.lt).trans hA; replace hB : At w9 (w.heap.size + 1) _ 110 := (hA9.old _ (by omega) hB.lt).trans hB; replace hC : At w9 (w.heap.size + 1 + 1) _ 31 := (hA9.old _ (by omega) hC.lt).trans hC; replace hbk : Below w.heap.size w w9 := hA9.below w hbk (by omega); have hI : IsGE w9 (.slice a9 k9 c9) (L.eraseIdx j ++ [(⟨G, ga, gc⟩ : GE)]) := ge_more hA9.row (lines_sub (HL.out.1.2.below hbk) (fun x hx => (List.eraseIdx_sublist _ _).mem hx)) (HG.out.1.below hbk); clear hA9 hrun hR hX)
                refine hK.out _ _ ?_ (fun hHeld => ?_)
                · (try dsimp only)
                  exact ⟨hA, hB⟩
                clear hK K
                try simp only [Act.put, List.setIfInBounds_toArray, List.set_cons_zero, List.set_cons_succ]
                refine wpAnyH_ready (rs := [6]) (by kernel_rfl) (by simp) ?_
                refine AllReadyH.cons (o := _) rfl (fun K hK => ?_) ?_
                · -- 126
                  (go_simp; refine Calls.mono (ordered_w hI (by rw [List.length_append, List.length_eraseIdx, List.length_singleton]; have := HN.out; split <;> omega) (k_more (fun y hy => (HL.out.2 y ((List.eraseIdx_sublist _ _).mem hy)).1) HG.out.2) HNM.out) ?_; rintro e W ⟨⟨u5, M, rfl, hp, hso, hO⟩, hk9⟩; clear hI; obtain ⟨a5, c5, rfl, -⟩ := hO.ge.slice; replace hO := hO.mono hbk.size; replace hA := hA.below hk9 hA.lt; replace hB := hB.below hk9 hB.lt; replace hC := hC.below hk9 hC.lt; replace hbk := hbk.trans (hk9.mono hbk.size); clear hk9)
                  refine hK.out _ _ ?_ (fun hHeld => ?_)
                  · (try dsimp only)
                    exact ⟨hA, hB⟩
                  clear hK K
                  try simp only [Act.put, List.setIfInBounds_toArray, List.set_cons_zero, List.set_cons_succ]
                  refine wpAnyH_ready (rs := [7]) (by kernel_rfl) (by simp) ?_
                  refine AllReadyH.cons (o := { dst := none, op := Op.store 31 (Operand.tmp 4) (Operand.tmp 42), type := 0, pos := "season.go:192", after := #[{ on := 6, ground := Ground.data }, { on := 6, ground := Ground.chain }, { on := 0, ground := Ground.phase }, { on := 1, ground := Ground.phase }, { on := 2, ground := Ground.phase }, { on := 3, ground := Ground.phase }, { on := 4, ground := Ground.phase }, { on := 5, ground := Ground.phase }, { on := 6, ground := Ground.phase }], guard := none }) rfl (fun K hK => ?_) ?_
                  · -- store
                    (obtain ⟨y0, f0⟩ := box1 hC; go_simp; replace hA := hA.setCell (a := ⟨w.heap.size + 1 + 1, 0, none⟩) (by simp only; omega) (.slice a5 M.length c5); replace hB := hB.setCell (a := ⟨w.heap.size + 1 + 1, 0, none⟩) (by simp only; omega) (.slice a5 M.length c5); replace hO := hO.setCell hC (by decide) (by decide) 0 (.slice a5 M.length c5); replace hC := hC.set 0 (.slice a5 M.length c5); replace hbk := hbk.setCell (p := ⟨w.heap.size + 1 + 1, 0, none⟩) (by simp only; omega) (.slice a5 M.length c5); clear y0 f0)
                    refine hK.out _ _ ?_ (fun hHeld => ?_)
                    · (try dsimp only)
                      exact ⟨hA, hB⟩
                    clear hK K
                    try simp only [Act.put, List.setIfInBounds_toArray, List.set_cons_zero, List.set_cons_succ]
                    refine wpAnyH_take (i := 8) (oi := { dst := some 5, op := Op.assign (Operand.const (Value.int IntKind.i64 0)), type := 26, pos := "season.go:192", after := #[{ on := 7, ground := Ground.chain }, { on := 0, ground := Ground.phase }, { on := 1, ground := Ground.phase }, { on := 2, ground := Ground.phase }, { on := 3, ground := Ground.phase }, { on := 4, ground := Ground.phase }, { on := 5, ground := Ground.phase }, { on := 6, ground := Ground.phase }, { on := 7, ground := Ground.phase }], guard := none }) (v := ?_) rfl (by kernel_rfl) (by kernel_rfl) (by kernel_rfl) (fun _ _ _ h => h) (Or.inl ⟨by rfl, ?_⟩) (by assumption) ?_
                    rotate_left
                    · (intro w hSw; (try dsimp only at hSw); go_simp); all_goals (with_reducible rfl)
                    try simp only [Act.put, List.setIfInBounds_toArray, List.set_cons_zero, List.set_cons_succ]
                    refine wpAnyH_done (by kernel_rfl) ?_ _
                    have HFIN : Hid ((gmL M).Perm ((gmL L).eraseIdx (fdE (gmL L) G.nm).toNat ++ [G])) := Lib.hid (by
                      rw [HJ.out.2.1, Int.toNat_natCast, ← gmL_erase]
                      unfold gmL at hp ⊢
                      rw [List.map_append] at hp
                      exact hp)
                    clear hp hA hB
                    go_wp2_with fail
                    exact bodyPost_ret (resB rfl rfl rfl hC) rfl ⟨⟨_, _, rfl, HX4.out, M, hO, fun _ => ⟨HFIN.out, hso⟩, fun e => absurd rfl e⟩, hbk⟩
                  exact AllReadyH.nil
                exact AllReadyH.nil
              exact AllReadyH.nil
            exact AllReadyH.nil
          exact AllReadyH.nil
        · have hvv : (G.ver != yv + 1) = true := by simpa using hv0
          have HX4 : Hid ((32 : Int) = repC (gmL L) G) := Lib.hid (by rw [HX3.out, if_neg hv0])
          clear hv0
          go_wp2_with fail
          go_quiet (fail)
          have hb := belowN hb nq
          replace hA := atN hA nq
          replace hB := atN hB nq
          replace hC := atN hC nq
          clear x0 z0 z1 z2 z3 z4 z5 z6 z7 p1
          generalize W5.drewN nq = W6 at hA hB hC hb ⊢
          have hC2 := hC.set 0 (.slice none 0 0)
          have hb2 := hb.setCell (p := ⟨w.heap.size + 1 + 1, 0, none⟩) (by simp only; omega) (.slice none 0 0)
          obtain ⟨y0, f0⟩ := box1 hC
          clear hA hB
          go_wp2_with fail
          exact bodyPost_ret (resB rfl rfl rfl hC2) rfl ⟨⟨_, _, rfl, HX4.out, [], OwnGE.none _ _ _ _, fun e => absurd e (by decide), fun _ => rfl⟩, hb2⟩
    · have hzz : (X != 0) = true := by simpa using hX0
      have HX3 : Hid (X = repC (gmL L) G) := Lib.hid (by rw [HX.out, if_neg hX0])
      have hC2 := hC.set 0 (.slice none 0 0)
      have hb2 := hb.setCell (p := ⟨w.heap.size + 1 + 1, 0, none⟩) (by simp only; omega) (.slice none 0 0)
      obtain ⟨y0, f0⟩ := box1 hC
      clear hA hB
      go_wp2_with fail
      exact bodyPost_ret (resB rfl rfl rfl hC2) rfl ⟨⟨_, _, rfl, HX3.out, [], OwnGE.none _ _ _ _, fun e => absurd e hX0, fun _ => rfl⟩, hb2⟩
set_option maxHeartbeats 6400000 in
theorem remove_w {L : List GE} {v : Value} {w : World} (h : IsGE w v L) (hn : L.length ≤ 66) (hk : ∀ x ∈ L, x.g.k ≤ 62 ∧ x.g.nm.length ≤ 60) (nm : List UInt8) :
    Calls prog 63 #[.agg #[v], .string (bA nm)] w fun e w' => (∃ u x, e = .returned (.tuple #[.agg #[u], .int .i64 x]) ∧ x = remC (gmL L) nm ∧ BookA w' w.heap.size u x (fun M => M.Perm ((gmL L).eraseIdx (fdE (gmL L) nm).toNat))) ∧ Below w.heap.size w w' := by
  have HL := Lib.hid (And.intro h hk)
  obtain ⟨va, vc, rfl, hvc⟩ := h.slice
  obtain ⟨n, hln⟩ : ∃ n, L.length = n := ⟨_, rfl⟩
  have HN := Lib.hid hln
  rw [hln] at HL hn hvc ⊢
  have hA := (at_new w #[.slice va n vc] 31).alloc (.cells #[.slice none 0 0] 31)
  have hC : At ((w.alloc (.cells #[.slice va n vc] 31)).alloc (.cells #[.slice none 0 0] 31)) (w.heap.size + 1) #[.slice none 0 0] 31 := by
    have := at_new (w.alloc (.cells #[.slice va n vc] 31)) #[.slice none 0 0] 31
    simpa using this
  have hb1 : Below w.heap.size w ((w.alloc (.cells #[.slice va n vc] 31)).alloc (.cells #[.slice none 0 0] 31)) := ((Below.refl _ _).alloc (Nat.le_refl _) _).alloc (by simp) _
  obtain ⟨W1, hW⟩ : ∃ W1, (w.alloc (.cells #[.slice va n vc] 31)).alloc (.cells #[.slice none 0 0] 31) = W1 := ⟨_, rfl⟩
  rw [hW] at hA hC hb1
  obtain ⟨E, hE⟩ : ∃ E, bkE (gmL L) = E := ⟨_, rfl⟩
  obtain ⟨E2, hE2⟩ : ∃ E, nmE nm = E := ⟨_, rfl⟩
  obtain ⟨K, hK⟩ : ∃ K, fdE (gmL L) nm = K := ⟨_, rfl⟩
  have HE := Lib.hid (And.intro hE (And.intro hE2 hK))
  have c54 : ∀ W, Below w.heap.size w W → Calls prog 54 #[.agg #[.slice va n vc]] W fun e w' => e = .returned (.int .i64 E) ∧ Below W.heap.size W w' := fun W hb => by rw [← HE.out.1]; exact book_ge (HL.out.1.below hb) (by rw [HN.out]; exact hn) HL.out.2
  have c117 : ∀ W, Calls prog 117 #[.string (bA nm)] W fun e w' => e = .returned (.int .i64 E2) ∧ Below W.heap.size W w' := fun W => by rw [← HE.out.2.1]; exact named_w nm W
  have c125 : ∀ W, Below w.heap.size w W → Calls prog 125 #[.agg #[.slice va n vc], .string (bA nm)] W fun e w' => e = .returned (.int .i64 K) ∧ Below W.heap.size W w' := fun W hb => by rw [← HE.out.2.2]; exact index_ge (HL.out.1.below hb) (by rw [HN.out]; exact hn) nm
  have cF := first2_w E E2
  obtain ⟨X, hX⟩ : ∃ X, fstE [E, E2] = X := ⟨_, rfl⟩
  rw [hX] at cF
  have HX : Hid (remC (gmL L) nm = if X = 0 then (if K < 0 then 10 else 0) else X) := Lib.hid (by
    unfold remC
    rw [HE.out.1, HE.out.2.1, HE.out.2.2, hX])
  have HZ : Hid (X = 0 → E = 0 ∧ E2 = 0) := Lib.hid (fun h0 => by
    rw [← hX] at h0
    exact fst2_zz h0)
  obtain ⟨x0, -⟩ := box1 hA
  clear h hk hln hE hE2 hK hX
  go_enter func63, ntmps63
  go_wp2_with fail
  try rw [hW]
  clear hW
  go_at_call 54
  refine (c54 _ hb1).mono ?_
  rintro e W2 ⟨rfl, hk2⟩
  have hA := hA.below hk2 hA.lt
  have hC := hC.below hk2 hC.lt
  have hb := hb1.trans (hk2.mono hb1.size)
  clear c54 hk2 x0 hb1
  go_wp2_with fail
  go_at_call 117
  refine (c117 _).mono ?_
  rintro e W3 ⟨rfl, hk3⟩
  have hal := fun o => (Below.refl W3.heap.size W3).alloc (Nat.le_refl _) o
  have hA := (hA.below hk3 hA.lt).alloc (.cells #[.int .i64 E, .int .i64 E2] 26)
  have hC := (hC.below hk3 hC.lt).alloc (.cells #[.int .i64 E, .int .i64 E2] 26)
  have hb := (hb.trans (hk3.mono hb.size)).trans ((hal (.cells #[.int .i64 E, .int .i64 E2] 26)).mono (hb.trans (hk3.mono hb.size)).size)
  clear c117 hk3 hal
  go_wp2_with fail
  go_at_call 88
  refine (cF _ _ (by simp) (by simp)).mono ?_
  rintro e W4 ⟨rfl, rfl⟩
  obtain ⟨W4, hW4⟩ : ∃ W4, W3.alloc (.cells #[.int .i64 E, .int .i64 E2] 26) = W4 := ⟨_, rfl⟩
  rw [hW4] at hA hC hb ⊢
  clear hW4 cF
  by_cases hX0 : X = 0
  · have HP := Lib.hid (HZ.out hX0)
    have HX2 : Hid (remC (gmL L) nm = if K < 0 then 10 else 0) := Lib.hid (by rw [HX.out, if_pos hX0])
    subst hX0
    obtain ⟨x0, -⟩ := box1 hA
    clear HZ HX
    go_wp2_with fail
    go_at_call 125
    refine (c125 _ hb).mono ?_
    rintro e W5 ⟨rfl, hk5⟩
    have hA := hA.below hk5 hA.lt
    have hC := hC.below hk5 hC.lt
    have hb := hb.trans (hk5.mono hb.size)
    clear c125 hk5 x0
    have HF := Lib.hid (fdE_cases (gmL L) nm)
    by_cases hK0 : K < 0
    · have HX3 : Hid ((10 : Int) = remC (gmL L) nm) := Lib.hid (by rw [HX2.out, if_pos hK0])
      have hC2 := hC.set 0 (.slice none 0 0)
      have hb2 := hb.setCell (p := ⟨w.heap.size + 1, 0, none⟩) (by simp only; omega) (.slice none 0 0)
      obtain ⟨y0, f0⟩ := box1 hC
      clear hA
      go_wp2_with fail
      exact bodyPost_ret (resB rfl rfl rfl hC2) rfl ⟨⟨_, _, rfl, HX3.out, [], OwnGE.none _ _ _ _, fun e => absurd e (by decide), fun _ => rfl⟩, hb2⟩
    · obtain ⟨j, yg, hj, hfj, hjn⟩ : ∃ (j : Nat) (y : GmD), (gmL L)[j]? = some y ∧ fdE (gmL L) nm = (j : Int) ∧ y.nm = nm := by
        rcases HF.out with ⟨q, -⟩ | q
        · rw [HE.out.2.2] at q; omega
        · exact q
      have hKj : K = (j : Int) := by rw [← HE.out.2.2]; exact hfj
      subst hKj
      have hjl : j < n := by
        have := (List.getElem?_eq_some_iff.1 hj).1
        rw [gmL_len, HN.out] at this
        exact this
      have HX3 : Hid ((0 : Int) = remC (gmL L) nm) := Lib.hid (by rw [HX2.out, if_neg hK0])
      have HJ := Lib.hid hfj
      have HB := Lib.hid (bkE_book (HE.out.1.trans HP.out.1))
      have cC := withoutG_w (i := j) (HL.out.1.below hb) (by rw [HN.out]; exact Nat.le_trans hn (by decide)) (by rw [HN.out]; exact hjl)
      obtain ⟨x0, -⟩ := box1 hA
      clear HX2 HF hj hfj hjn
      go_wp2_with fail
      go_at_call 128
      refine cC.mono ?_
      rintro e W6 ⟨⟨u, rfl, hu⟩, hk6⟩
      have hA := hA.below hk6 hA.lt
      have hC := hC.below hk6 hC.lt
      have hb := hb.trans (hk6.mono hb.size)
      have cO := ordered_w (OwnGL.ge hu (lines_sub (HL.out.1.2.below hb) (fun x hx => (List.eraseIdx_sublist _ _).mem hx))) (by rw [List.length_eraseIdx]; have := HN.out; split <;> omega) (fun y hy => Nat.le_trans (HL.out.2 y ((List.eraseIdx_sublist _ _).mem hy)).1 (by decide)) (by rw [gmL_erase]; exact names_sub HB.out.names (List.eraseIdx_sublist _ _))
      clear cC hk6 x0 hu
      go_wp2_with fail
      go_at_call 126
      refine cO.mono ?_
      rintro e W7 ⟨⟨u5, M, rfl, hp, hso, hO⟩, hk7⟩
      obtain ⟨a5, c5, rfl, -⟩ := hO.ge.slice
      have hO := hO.mono hb.size
      have hC := hC.below hk7 hC.lt
      have hb := hb.trans (hk7.mono hb.size)
      have HFIN : Hid ((gmL M).Perm ((gmL L).eraseIdx (fdE (gmL L) nm).toNat)) := Lib.hid (by
        rw [HJ.out, Int.toNat_natCast, ← gmL_erase]
        exact hp)
      obtain ⟨y0, f0⟩ := box1 hC
      have hO2 := hO.setCell hC (by decide) (by decide) 0 (.slice a5 M.length c5)
      have hC2 := hC.set 0 (.slice a5 M.length c5)
      have hb2 := hb.setCell (p := ⟨w.heap.size + 1, 0, none⟩) (by simp only; omega) (.slice a5 M.length c5)
      clear cO hk7 hp hA hO
      go_wp2_with fail
      exact bodyPost_ret (resB rfl rfl rfl hC2) rfl ⟨⟨_, _, rfl, HX3.out, M, hO2, fun _ => ⟨HFIN.out, hso⟩, fun e => absurd rfl e⟩, hb2⟩
  · have hzz : (X != 0) = true := by simpa using hX0
    have HX3 : Hid (X = remC (gmL L) nm) := Lib.hid (by rw [HX.out, if_neg hX0])
    have hC2 := hC.set 0 (.slice none 0 0)
    have hb2 := hb.setCell (p := ⟨w.heap.size + 1, 0, none⟩) (by simp only; omega) (.slice none 0 0)
    obtain ⟨y0, f0⟩ := box1 hC
    clear hA
    go_wp2_with fail
    exact bodyPost_ret (resB rfl rfl rfl hC2) rfl ⟨⟨_, _, rfl, HX3.out, [], OwnGE.none _ _ _ _, fun e => absurd e hX0, fun _ => rfl⟩, hb2⟩
end Go.Proofs.Tryz
