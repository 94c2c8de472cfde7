/- SeasonBooks: the law returns true. -/
import Derived.Test.YtbfonnoebbjenaaGreatDoorAxN
import Derived.Test.YtbfonnoebbjenaaGreatDoorAxR
import Derived.Test.YtbfonnoebbjenaaGreatDoorAxMt
import Derived.Test.YtbfonnoebbjenaaGreatDoorAxBg
import Derived.Test.YtbfonnoebbjenaaGreatDoorAxBh
import Derived.Test.YtbfonnoebbjenaaGreatDoorAxTc
import Derived.Deep.CutRange
namespace Go.Proofs.Tryz
open Go Go.Am Go.RowKit Go.Op
set_option maxRecDepth 100000

theorem BookA.below {W W' : World} {B : Nat} {u : Value} {x : Int} {P : List GmD → Prop} (h : BookA W B u x P) (hb : Below W.heap.size W W') : BookA W' B u x P := let ⟨M, h1, h2⟩ := h; ⟨M, h1.below hb, h2⟩
theorem BookA.mono {W : World} {B B' : Nat} {u : Value} {x : Int} {P : List GmD → Prop} (h : BookA W B u x P) (hb : B' ≤ B) : BookA W B' u x P := let ⟨M, h1, h2⟩ := h; ⟨M, h1.mono hb, h2⟩
theorem BookA.setCell {W : World} {B : Nat} {u : Value} {x : Int} {P : List GmD → Prop} (h : BookA W B u x P) {b : Nat} {cs : Array Value} (ha : At W b cs 31) (i : Nat) (v : Value) : BookA (W.setCell ⟨b, i, none⟩ v) B u x P := let ⟨M, h1, h2⟩ := h; ⟨M, h1.setCell ha (by decide) (by decide) i v, h2⟩
theorem BookA.slice {W : World} {B : Nat} {u : Value} {x : Int} {P : List GmD → Prop} (h : BookA W B u x P) : ∃ a k c, u = .slice a k c := let ⟨_, h1, _⟩ := h; let ⟨a, c, e, _⟩ := h1.ge.slice; ⟨a, _, c, e⟩
/-- A list that the reference has made, or none. -/
def BookG (W : World) (u : Value) (x : Int) (Q : List GmD) : Prop := ∃ M : List GmD, IsGames W u (atG M) M.length ∧ (x = 0 → M.Perm Q ∧ SortG M) ∧ (x ≠ 0 → M = [])
theorem BookG.below {W W' : World} {u : Value} {x : Int} {Q : List GmD} (h : BookG W u x Q) (hb : Below W.heap.size W W') : BookG W' u x Q := let ⟨M, h1, h2⟩ := h; ⟨M, h1.below hb, h2⟩
theorem isGames_none (W : World) (g : Nat → GmD) : IsGames W (.slice none 0 0) g 0 := ⟨fun _ => .bool false, Row.nil _ _ _, fun _ h => absurd h (Nat.not_lt_zero _)⟩
theorem BookG.none {W : World} {x : Int} {Q : List GmD} (h : x ≠ 0) : BookG W (.slice none 0 0) x Q := ⟨[], isGames_none _ _, fun e => absurd e h, fun _ => rfl⟩
/-- Both sides' lists are one. -/
theorem book_same {W : World} {B : Nat} {u u' : Value} {x : Int} {Q : List GmD} (h : BookA W B u x (fun M => M.Perm Q)) (h' : BookG W u' x Q) (hl : Q.length ≤ 1000) (hk : ∀ y ∈ Q, y.k ≤ 1000) : ∃ M, IsGames W u (atG M) M.length ∧ IsGames W u' (atG M) M.length ∧ M.length ≤ 1000 ∧ ∀ i, i < M.length → (atG M i).k ≤ 1000 := by
  obtain ⟨M, h1, h2, h3⟩ := h
  obtain ⟨M', q1, q2, q3⟩ := h'
  have e : gmL M = M' := by
    by_cases hx : x = 0
    · exact sortG_one ((h2 hx).1.trans (q2 hx).1.symm) (h2 hx).2 (q2 hx).2
    · rw [h3 hx, q3 hx]; rfl
  subst e
  have h4 := h1.ge.is
  rw [← gmL_len] at h4
  refine ⟨gmL M, h4, q1, ?_⟩
  by_cases hx : x = 0
  · have hp := (h2 hx).1
    refine ⟨by rw [hp.length_eq]; exact hl, fun i hi => ?_⟩
    exact hk _ (hp.mem_iff.1 (List.mem_of_getElem? (atG_get hi)))
  · rw [h3 hx]
    exact ⟨Nat.zero_le _, fun i hi => absurd hi (Nat.not_lt_zero _)⟩
theorem fdE_list (g : Nat → GmD) (n : Nat) (nm : List UInt8) : fdE (listG g n) nm = fndK g nm 0 n := by
  unfold fdE
  rw [listG_len]
  have : ∀ k i, i + k ≤ n → fndK (atG (listG g n)) nm i k = fndK g nm i k := by
    intro k
    induction k with
    | zero => intro i _; rfl
    | succ k ih =>
      intro i hi
      unfold fndK
      rw [listG_at (by omega), ih (i + 1) (by omega)]
  exact this n 0 (by omega)
theorem bkE_list (g : Nat → GmD) (n : Nat) : bkE (listG g n) = bookE g n := by
  unfold bkE bookE
  rw [listG_len]
  have : ∀ k i, i + k ≤ n → bookK (atG (listG g n)) i k = bookK g i k := by
    intro k
    induction k with
    | zero => intro i _; rfl
    | succ k ih =>
      intro i hi
      unfold bookK
      have hs : ∀ (nm : List UInt8) j, j ≤ n → seenB (atG (listG g n)) nm j = seenB g nm j := by
        intro nm j
        induction j with
        | zero => intro _; rfl
        | succ j ihj => intro hj; unfold seenB; rw [ihj (by omega), listG_at (by omega)]
      rw [listG_at (by omega), hs _ i (by omega), ih (i + 1) (by omega)]
      by_cases h0 : 0 < i
      · rw [listG_at (g := g) (n := n) (i := i - 1) (by omega)]
      · simp only [h0, false_and, if_false]
  rw [this n 0 (by omega)]
theorem mem_list {g : Nat → GmD} {n : Nat} {P : GmD → Prop} (h : ∀ i, i < n → P (g i)) : ∀ y ∈ listG g n, P y := fun y hy => by
  obtain ⟨i, hi, rfl⟩ := List.mem_map.1 hy
  exact h i (List.mem_range.1 hi)
theorem ge_k {L : List GE} {A : List GmD} (hA : gmL L = A) {P : GmD → Prop} (h : ∀ y ∈ A, P y) : ∀ x ∈ L, P x.g := fun x hx => h _ (by rw [← hA]; exact List.mem_map_of_mem hx)
section
variable {W : World} {u : Value} {g : Nat → GmD} {n : Nat} (h : IsGames W u g n) (hn : n ≤ 66) (hk : ∀ y ∈ listG g n, y.k ≤ 62 ∧ y.nm.length ≤ 60)
include h hn hk
theorem put_games {G : GmD} {a : Option Addr} {c : Nat} (hG : IsLines W (.slice a G.k c) G.l G.k) (hGk : G.k ≤ 62) : Calls prog 61 #[.agg #[u], .agg #[.string (bA G.nm), .int .i64 G.ver, .int .i64 G.day, .string (bA G.t0), .string (bA G.t1), .int .i64 G.s0, .int .i64 G.s1, .slice a G.k c]] W fun e w' => (∃ u5, e = .returned (.tuple #[.agg #[u5], .int .i64 (putC (listG g n) G)]) ∧ BookA w' W.heap.size u5 (putC (listG g n) G) (fun M => M.Perm (listG g n ++ [G]))) ∧ Below W.heap.size W w' := by
  obtain ⟨L, hL, hI⟩ := h.ge
  have hl : L.length = n := by rw [← gmL_len, hL, listG_len]
  refine (put_w hI (by omega) (ge_k hL hk) hG hGk).mono ?_
  rw [hL]
  rintro e w' ⟨⟨u5, x, rfl, rfl, hB⟩, hb⟩
  exact ⟨⟨u5, rfl, hB⟩, hb⟩
theorem rep_games {G : GmD} {a : Option Addr} {c : Nat} (hG : IsLines W (.slice a G.k c) G.l G.k) (hGk : G.k ≤ 62) : Calls prog 62 #[.agg #[u], .agg #[.string (bA G.nm), .int .i64 G.ver, .int .i64 G.day, .string (bA G.t0), .string (bA G.t1), .int .i64 G.s0, .int .i64 G.s1, .slice a G.k c]] W fun e w' => (∃ u5, e = .returned (.tuple #[.agg #[u5], .int .i64 (repC (listG g n) G)]) ∧ BookA w' W.heap.size u5 (repC (listG g n) G) (fun M => M.Perm ((listG g n).eraseIdx (fdE (listG g n) G.nm).toNat ++ [G]))) ∧ Below W.heap.size W w' := by
  obtain ⟨L, hL, hI⟩ := h.ge
  have hl : L.length = n := by rw [← gmL_len, hL, listG_len]
  refine (replace_w hI (by omega) (ge_k hL hk) hG hGk).mono ?_
  rw [hL]
  rintro e w' ⟨⟨u5, x, rfl, rfl, hB⟩, hb⟩
  exact ⟨⟨u5, rfl, hB⟩, hb⟩
theorem rem_games (nm : List UInt8) : Calls prog 63 #[.agg #[u], .string (bA nm)] W fun e w' => (∃ u5, e = .returned (.tuple #[.agg #[u5], .int .i64 (remC (listG g n) nm)]) ∧ BookA w' W.heap.size u5 (remC (listG g n) nm) (fun M => M.Perm ((listG g n).eraseIdx (fdE (listG g n) nm).toNat))) ∧ Below W.heap.size W w' := by
  obtain ⟨L, hL, hI⟩ := h.ge
  have hl : L.length = n := by rw [← gmL_len, hL, listG_len]
  refine (remove_w hI (by omega) (ge_k hL hk) nm).mono ?_
  rw [hL]
  rintro e w' ⟨⟨u5, x, rfl, rfl, hB⟩, hb⟩
  exact ⟨⟨u5, rfl, hB⟩, hb⟩
omit hk in
theorem putR_games {G : GmD} {a : Option Addr} {c : Nat} (hG : IsLines W (.slice a G.k c) G.l G.k) (hs : SortG (listG g n)) (hne : ∀ y ∈ listG g n, y.nm ≠ G.nm) : Calls prog 65 #[u, .agg #[.string (bA G.nm), .int .i64 G.ver, .int .i64 G.day, .string (bA G.t0), .string (bA G.t1), .int .i64 G.s0, .int .i64 G.s1, .slice a G.k c]] W fun e w' => (∃ u5, e = .returned u5 ∧ BookG w' u5 0 (listG g n ++ [G])) ∧ Below W.heap.size W w' := by
  obtain ⟨L, hL, hI⟩ := h.ge
  have hl : L.length = n := by rw [← gmL_len, hL, listG_len]
  refine (putR_w (xg := G) (xa := a) (xc := c) hI (by omega) (by rw [hL]; exact hs) (by rw [hL]; exact hne)).mono ?_
  rintro e w' ⟨⟨u5, M, rfl, hp, hso, hO⟩, hb⟩
  have hI2 : IsGE w' u5 M := OwnGL.ge hO (fun x hx => by
    rcases List.mem_append.1 (hp.mem_iff.1 hx) with q | q
    · exact (hI.2 x q).below hb
    · rw [List.mem_singleton.1 q]; exact hG.below hb)
  have h3 := hI2.is
  rw [← gmL_len] at h3
  refine ⟨⟨u5, rfl, gmL M, h3, fun _ => ⟨?_, hso⟩, fun e => absurd rfl e⟩, hb⟩
  have := hp.map GE.g
  rw [List.map_append] at this
  rw [← hL]
  exact this
omit hk in
theorem remR_games {i : Nat} (hi : i < n) : Calls prog 66 #[u, .int .i64 (i : Int)] W fun e w' => (∃ u5, e = .returned u5 ∧ IsGames w' u5 (atG ((listG g n).eraseIdx i)) (n - 1)) ∧ Below W.heap.size W w' := by
  obtain ⟨L, hL, hI⟩ := h.ge
  have hl : L.length = n := by rw [← gmL_len, hL, listG_len]
  refine (removeR_w hI (by omega) (by omega)).mono ?_
  rintro e w' ⟨⟨u5, rfl, hO⟩, hb⟩
  have hI2 : IsGE w' u5 (L.eraseIdx i) := OwnGL.ge hO (lines_sub (hI.2.below hb) fun x hx => (List.eraseIdx_sublist _ _).mem hx)
  have h3 := hI2.is
  rw [gmL_erase, hL, List.length_eraseIdx, hl, if_pos hi] at h3
  exact ⟨⟨u5, rfl, h3⟩, hb⟩
omit hk in
theorem findR_games (nm : List UInt8) : Calls prog 64 #[u, .string (bA nm)] W fun e w' => e = .returned (.int .i64 (fdE (listG g n) nm)) ∧ Below W.heap.size W w' := by
  rw [fdE_list]
  exact findG_w h (Nat.le_trans hn (by decide)) nm
end
theorem two_nil {a b x : Int} (e : fstE [a, b] = x) (h : x = 0) : a = 0 ∧ b = 0 := by
  subst h
  exact fst2_zz e
theorem putC_bad {A : List GmD} {G : GmD} (h : fstE [bkE A, gmE G] ≠ 0) : putC A G = fstE [bkE A, gmE G] := by
  unfold putC
  unfold fstE at h ⊢
  by_cases h1 : bkE A = 0
  · rw [if_pos h1] at h ⊢
    unfold fstE at h ⊢
    by_cases h2 : gmE G = 0
    · rw [if_pos h2] at h; exact absurd rfl h
    · rw [if_neg h2, if_pos h1, if_neg h2]
  · rw [if_neg h1, if_neg h1]
theorem putC_good {A : List GmD} {G : GmD} (h1 : bkE A = 0) (h2 : gmE G = 0) : putC A G = if 0 ≤ fdE A G.nm then 9 else if G.ver = 1 then (if 64 ≤ A.length then 5 else 0) else 32 := by
  unfold putC
  rw [h1, h2]
  by_cases q1 : 0 ≤ fdE A G.nm
  · rw [if_pos q1, if_pos q1]; rfl
  · rw [if_neg q1, if_neg q1]
    by_cases q2 : G.ver = 1
    · rw [if_pos q2, if_pos q2]
      by_cases q3 : 64 ≤ A.length
      · rw [if_pos q3]; rfl
      · rw [if_neg q3]; rfl
    · rw [if_neg q2, if_neg q2]; rfl
theorem At.kind9 {w : World} {b e e' : Nat} {cs cs' : Array Value} (h : At w b cs e) (h' : At w b cs' e') : e = e' := by
  unfold At at h h'
  rw [h] at h'
  simp only [Option.some.injEq, Obj.cells.injEq] at h'
  exact h'.2.1
theorem At.ne9 {w : World} {b b' e e' : Nat} {cs cs' : Array Value} (h : At w b cs e) (h' : At w b' cs' e') (hne : e ≠ e') : b ≠ b' := fun q => hne (At.kind9 h (q ▸ h'))
theorem alloc_set9 (w : World) (a v : Value) (e : TypeId) : (w.alloc (.cells #[a] e)).setCell ⟨w.heap.size, 0, none⟩ v = w.alloc (.cells #[v] e) := by simp [go_sem]
theorem one_ok' {G : GmD} (h : ShortOk 1 (fun _ => G) 1) : shGm G := h.2.2 0 (by decide)
set_option maxHeartbeats 12800000 in
theorem books_law {w : World} (hlaid : Laid w) {v : Value} {g : Nat → GmD} {n : Nat} (hv : IsGames w v g n) {G : GmD} {ad : Option Addr} {kc : Nat} (hG : IsLines w (.slice ad G.k kc) G.l G.k) (nm : List UInt8) :
    Calls prog 10 #[v, .agg #[.string (bA G.nm), .int .i64 G.ver, .int .i64 G.day, .string (bA G.t0), .string (bA G.t1), .int .i64 G.s0, .int .i64 G.s1, .slice ad G.k kc], .string (bA nm)] w fun e w' => e = .returned (.bool true) ∧ Below w.heap.size w w' := by
  have hb0 : Below w.heap.size w (w.alloc (.cells #[.string (bA G.nm), .int .i64 G.ver, .int .i64 G.day, .string (bA G.t0), .string (bA G.t1), .int .i64 G.s0, .int .i64 G.s1, .slice ad G.k kc] 105)) := (Below.refl _ _).alloc (Nat.le_refl _) _
  have hx := at_new w #[.string (bA G.nm), .int .i64 G.ver, .int .i64 G.day, .string (bA G.t0), .string (bA G.t1), .int .i64 G.s0, .int .i64 G.s1, .slice ad G.k kc] 105
  obtain ⟨W1, hW⟩ : ∃ W1, w.alloc (.cells #[.string (bA G.nm), .int .i64 G.ver, .int .i64 G.day, .string (bA G.t0), .string (bA G.t1), .int .i64 G.s0, .int .i64 G.s1, .slice ad G.k kc] 105) = W1 := ⟨_, rfl⟩
  rw [hW] at hb0 hx
  have hlaid1 := hlaid.below hb0
  have c15 := awake_w hlaid1
  have c16 : ∀ W, Below w.heap.size w W → Calls prog 16 #[v, .int .i64 6] W fun e w' => AnsB e (ShortOk 6 g n) ∧ w' = W := fun W h => short_w (hv.below h) 6
  have hv0 := hv
  obtain ⟨lv0, hr, -⟩ := hv0
  obtain ⟨va, vc, rfl, hnc⟩ := hr.slice
  clear hr
  go_enter func10, ntmps10
  go_wp2_with fail
  try rw [hW]
  clear hW
  go_at_call 15
  refine c15.mono ?_
  rintro e W2 ⟨rfl, hk⟩
  have hb2 := hb0.trans (hk.mono hb0.size)
  have hx2 := hx.below hk hx.lt
  have hlaid2 := hlaid1.below hk
  clear c15 hk hx hb0 hlaid1
  go_wp2_with fail
  go_at_call 16
  refine (c16 _ hb2).mono ?_
  rintro e W3 ⟨⟨b1, rfl, h1⟩, rfl⟩
  have c15 := awake_w hlaid2
  cases b1 with
  | false =>
    clear c16 h1
    go_wp2_with fail
    go_at_call 15
    refine c15.mono ?_
    rintro e W4 ⟨rfl, hk⟩
    have hb4 := hb2.trans (hk.mono hb2.size)
    clear c15 hk hb2
    go_wp2_with fail
    go_ret
    exact ⟨rfl, hb4⟩
  | true =>
    have hsh := h1 rfl
    obtain ⟨⟨x0, x1, x2, x3, x4, x5, x6, x7⟩, -⟩ := box8 hx2
    have hal : Below W3.heap.size W3 (W3.alloc (.cells #[.string (bA G.nm), .int .i64 G.ver, .int .i64 G.day, .string (bA G.t0), .string (bA G.t1), .int .i64 G.s0, .int .i64 G.s1, .slice ad G.k kc] 105)) := (Below.refl _ _).alloc (Nat.le_refl _) _
    have c16 : Calls prog 16 #[.slice (some ⟨W3.heap.size, 0, none⟩) 1 1, .int .i64 1] (W3.alloc (.cells #[.string (bA G.nm), .int .i64 G.ver, .int .i64 G.day, .string (bA G.t0), .string (bA G.t1), .int .i64 G.s0, .int .i64 G.s1, .slice ad G.k kc] 105)) fun e w' => AnsB e (ShortOk 1 (fun _ => G) 1) ∧ w' = (W3.alloc (.cells #[.string (bA G.nm), .int .i64 G.ver, .int .i64 G.day, .string (bA G.t0), .string (bA G.t1), .int .i64 G.s0, .int .i64 G.s1, .slice ad G.k kc] 105)) := short_w (isGames_one (at_new _ _ _) ((hG.below hb2).below hal) (Nat.le_refl _)) 1
    have hb3 := hb2.trans (hal.mono hb2.size)
    have hx3 := hx2.below hal hx2.lt
    have hlaid3 := hlaid2.below hal
    obtain ⟨W4, hW4⟩ : ∃ W4, W3.alloc (.cells #[.string (bA G.nm), .int .i64 G.ver, .int .i64 G.day, .string (bA G.t0), .string (bA G.t1), .int .i64 G.s0, .int .i64 G.s1, .slice ad G.k kc] 105) = W4 := ⟨_, rfl⟩
    rw [hW4] at c16 hb3 hx3 hlaid3
    clear h1 hx2 hb2 hlaid2 c15 hal
    go_wp2_with fail
    try rw [hW4]
    clear hW4
    go_at_call 16
    refine c16.mono ?_
    rintro e wq ⟨⟨b2, rfl, h2⟩, rfl⟩
    have c15 := awake_w hlaid3
    cases b2 with
    | false =>
      clear c16 h2
      go_wp2_with fail
      go_at_call 15
      refine c15.mono ?_
      rintro e W4 ⟨rfl, hk⟩
      have hb4 := hb3.trans (hk.mono hb3.size)
      clear c15 hk hb3
      go_wp2_with fail
      go_ret
      exact ⟨rfl, hb4⟩
    | true =>
      have hsG := one_ok' (h2 rfl)
      clear c16 h2 x0 x1 x2 x3 x4 x5 x6 x7
      by_cases h60 : 60 < (bA nm).size
      · have h60' : (60 : Int) < ((bA nm).size : Int) := by omega
        go_wp2_with fail
        go_at_call 15
        refine c15.mono ?_
        rintro e W4 ⟨rfl, hk⟩
        have hb4 := hb3.trans (hk.mono hb3.size)
        clear c15 hk hb3
        go_wp2_with fail
        go_ret
        exact ⟨rfl, hb4⟩
      · have h60' : ¬ (60 : Int) < ((bA nm).size : Int) := by omega
        have hn66 : n ≤ 66 := hsh.2.1
        have hkk : ∀ y ∈ listG g n, y.k ≤ 62 ∧ y.nm.length ≤ 60 := mem_list (P := fun y => y.k ≤ 62 ∧ y.nm.length ≤ 60) fun i hi => ⟨(hsh.2.2 i hi).1.2.2.2.2, (hsh.2.2 i hi).1.1⟩
        have hGk : G.k ≤ 62 := hsG.1.2.2.2.2
        have HV := Lib.hid (And.intro hv (And.intro hG hkk))
        have HLD := Lib.hid hlaid3
        clear hv hG hlaid hsh hsG hkk h60 c15 hlaid3
        obtain ⟨A, hA⟩ : ∃ A, listG g n = A := ⟨_, rfl⟩
        obtain ⟨X1, hX1⟩ : ∃ X, putC A G = X := ⟨_, rfl⟩
        obtain ⟨X2, hX2⟩ : ∃ X, repC A G = X := ⟨_, rfl⟩
        obtain ⟨X3, hX3⟩ : ∃ X, remC A nm = X := ⟨_, rfl⟩
        obtain ⟨Q1, hQ1⟩ : ∃ Q, A ++ [G] = Q := ⟨_, rfl⟩
        obtain ⟨Q2, hQ2⟩ : ∃ Q, A.eraseIdx (fdE A G.nm).toNat ++ [G] = Q := ⟨_, rfl⟩
        obtain ⟨Q3, hQ3⟩ : ∃ Q, A.eraseIdx (fdE A nm).toNat = Q := ⟨_, rfl⟩
        have HQ := Lib.hid (And.intro hA (And.intro hX1 (And.intro hX2 (And.intro hX3 (And.intro hQ1 (And.intro hQ2 hQ3))))))
        have c18 : ∀ W, Below w.heap.size w W → Calls prog 18 #[.slice va n vc] W fun e w' => (∃ u, e = .returned (.agg #[u]) ∧ OwnGames w' W.heap.size 110 132 u g n) ∧ Below W.heap.size W w' := fun W h => book_of (HV.out.1.below h) (by omega) (fun i hi => by have := HV.out.2.2 (g i) (by unfold listG; exact List.mem_map_of_mem (List.mem_range.2 hi)); omega)
        have c56 : ∀ W, Below w.heap.size w W → Calls prog 56 #[.agg #[.string (bA G.nm), .int .i64 G.ver, .int .i64 G.day, .string (bA G.t0), .string (bA G.t1), .int .i64 G.s0, .int .i64 G.s1, .slice ad G.k kc]] W fun e w' => (∃ a c, e = .returned (.agg #[.string (bA G.nm), .int .i64 G.ver, .int .i64 G.day, .string (bA G.t0), .string (bA G.t1), .int .i64 G.s0, .int .i64 G.s1,  .slice a G.k c]) ∧ OwnLines w' W.heap.size 132 (.slice a G.k c) G.l G.k) ∧ Below W.heap.size W w' := fun W h => single_w (HV.out.2.1.below h) (Nat.le_trans hGk (by decide))
        have c61 : ∀ W u a c, IsGames W u g n → IsLines W (.slice a G.k c) G.l G.k → Calls prog 61 #[.agg #[u], .agg #[.string (bA G.nm), .int .i64 G.ver, .int .i64 G.day, .string (bA G.t0), .string (bA G.t1), .int .i64 G.s0, .int .i64 G.s1,  .slice a G.k c]] W fun e w' => (∃ u5, e = .returned (.tuple #[.agg #[u5], .int .i64 X1]) ∧ BookA w' W.heap.size u5 X1 (fun M => M.Perm Q1)) ∧ Below W.heap.size W w' := fun W u a c h1 h2 => by
          rw [← hX1, ← hQ1, ← hA]; exact put_games h1 hn66 HV.out.2.2 h2 hGk
        have c62 : ∀ W u a c, IsGames W u g n → IsLines W (.slice a G.k c) G.l G.k → Calls prog 62 #[.agg #[u], .agg #[.string (bA G.nm), .int .i64 G.ver, .int .i64 G.day, .string (bA G.t0), .string (bA G.t1), .int .i64 G.s0, .int .i64 G.s1,  .slice a G.k c]] W fun e w' => (∃ u5, e = .returned (.tuple #[.agg #[u5], .int .i64 X2]) ∧ BookA w' W.heap.size u5 X2 (fun M => M.Perm Q2)) ∧ Below W.heap.size W w' := fun W u a c h1 h2 => by
          rw [← hX2, ← hQ2, ← hA]; exact rep_games h1 hn66 HV.out.2.2 h2 hGk
        have c63 : ∀ W u, IsGames W u g n → Calls prog 63 #[.agg #[u], .string (bA nm)] W fun e w' => (∃ u5, e = .returned (.tuple #[.agg #[u5], .int .i64 X3]) ∧ BookA w' W.heap.size u5 X3 (fun M => M.Perm Q3)) ∧ Below W.heap.size W w' := fun W u h1 => by
          rw [← hX3, ← hQ3, ← hA]; exact rem_games h1 hn66 HV.out.2.2 nm
        have HC := Lib.hid (And.intro c61 (And.intro c62 c63))
        clear hA hX1 hX2 hX3 hQ1 hQ2 hQ3 c61 c62 c63
        go_wp2_with fail
        clear h60'
        have hb := hb3
        have hx4 := hx3
        clear hb3 hx3
        generalize wq = W5 at hb hx4 HLD ⊢
        go_cut [7, 8] (fun s7 s8 wx => ∃ b7 u7, s7 = .pointer (some ⟨b7, 0, none⟩) ∧ s8 = .int .i64 X1 ∧ At wx b7 #[u7] 31 ∧ Hid (BookA wx w.heap.size u7 X1 (fun M => M.Perm Q1)) ∧ Below W5.heap.size W5 wx)
        case first =>
          have c61 := HC.out.1
          have hbk : Below w.heap.size w W5.drew := hb.drew
          have hbz : Below W5.heap.size W5 W5.drew := (Below.refl _ _).drew
          refine wp_region_held_drew (S := (fun W => At W w.heap.size #[.string (bA G.nm), .int .i64 G.ver, .int .i64 G.day, .string (bA G.t0), .string (bA G.t1), .int .i64 G.s0, .int .i64 G.s1, .slice ad G.k kc] 105)) (by kernel_rfl) ?_ (fun hHeld => ?_)
          · (try dsimp only)
            exact hx4
          replace hx4 : At W5.drew _ _ _ := hx4
          generalize W5.drew = W9 at hx4 hbk hbz ⊢
          have hHeld := hx4
          refine wpAnyH_take (i := 0) (oi := { dst := some 42, op := Op.move (Operand.tmp 0), type := 22, pos := "law.go:107", after := #[], guard := none }) (v := ?_) rfl (by kernel_rfl) (by kernel_rfl) (by kernel_rfl) (fun _ _ _ h => h) (Or.inl ⟨by rfl, ?_⟩) (by assumption) ?_
          rotate_left
          · (intro w hSw; (try dsimp only at hSw); go_simp); all_goals (with_reducible rfl)
          try simp only [Act.put, List.setIfInBounds_toArray, List.set_cons_zero, List.set_cons_succ]
          refine wpAnyH_take (i := 2) (oi := { dst := some 44, op := Op.load 105 (Operand.tmp 4), type := 105, pos := "law.go:107", after := #[], guard := none }) (v := ?_) rfl (by kernel_rfl) (by kernel_rfl) (by kernel_rfl) (fun _ _ _ h => h) (Or.inl ⟨by rfl, ?_⟩) (by assumption) ?_
          rotate_left
          · (intro w hSw; obtain ⟨⟨z0, z1, z2, z3, z4, z5, z6, z7⟩, -⟩ := box8 hSw; (try dsimp only at hSw); go_simp); all_goals (with_reducible rfl)
          try simp only [Act.put, List.setIfInBounds_toArray, List.set_cons_zero, List.set_cons_succ]
          refine wpAnyH_ready (rs := [1, 8]) (by kernel_rfl) (by simp) ?_
          refine AllReadyH.cons (o := _) rfl (fun K hK => ?_) ?_
          · -- 18
            (go_simp; refine Calls.mono (c18 _ hbk) ?_; rintro e W ⟨⟨u, rfl, hu⟩, hk9⟩; have h18 := hu.is; clear hu; replace hx4 := hx4.below hk9 hx4.lt; (try replace h18 := h18.below hk9); (try replace h56 := h56.below hk9); (try replace hz9 := hz9.below hk9 hz9.lt); replace hbk := hbk.trans (hk9.mono hbk.size); replace hbz := hbz.trans (hk9.mono hbz.size); clear hk9)
            refine hK.out _ _ ?_ (fun hHeld => ?_)
            · (try dsimp only)
              exact hx4
            clear hK K
            try simp only [Act.put, List.setIfInBounds_toArray, List.set_cons_zero, List.set_cons_succ]
            refine wpAnyH_ready (rs := [3, 8]) (by kernel_rfl) (by simp) ?_
            refine AllReadyH.cons (o := _) rfl (fun K hK => ?_) ?_
            · -- 56
              (go_simp; refine Calls.mono (c56 _ hbk) ?_; rintro e W ⟨⟨a6, c6, rfl, hu⟩, hk9⟩; have h56 := hu.is; clear hu; replace hx4 := hx4.below hk9 hx4.lt; (try replace h18 := h18.below hk9); (try replace h56 := h56.below hk9); (try replace hz9 := hz9.below hk9 hz9.lt); replace hbk := hbk.trans (hk9.mono hbk.size); replace hbz := hbz.trans (hk9.mono hbz.size); clear hk9)
              refine hK.out _ _ ?_ (fun hHeld => ?_)
              · (try dsimp only)
                exact hx4
              clear hK K
              try simp only [Act.put, List.setIfInBounds_toArray, List.set_cons_zero, List.set_cons_succ]
              refine wpAnyH_ready (rs := [4, 8]) (by kernel_rfl) (by simp) ?_
              refine AllReadyH.cons (o := _) rfl (fun K hK => ?_) ?_
              · -- 61
                (go_simp; refine Calls.mono (c61 _ _ _ _ h18 h56) ?_; rintro e W ⟨⟨u5, rfl, hB⟩, hk9⟩; have hBk := hB.mono hbk.size; clear hB h18 h56; replace hx4 := hx4.below hk9 hx4.lt; (try replace h18 := h18.below hk9); (try replace h56 := h56.below hk9); (try replace hz9 := hz9.below hk9 hz9.lt); replace hbk := hbk.trans (hk9.mono hbk.size); replace hbz := hbz.trans (hk9.mono hbz.size); clear hk9)
                refine hK.out _ _ ?_ (fun hHeld => ?_)
                · (try dsimp only)
                  exact hx4
                clear hK K
                try simp only [Act.put, List.setIfInBounds_toArray, List.set_cons_zero, List.set_cons_succ]
                refine wpAnyH_take (i := 5) (oi := { dst := some 41, op := Op.move (Operand.tmp 46), type := 117, pos := "law.go:107", after := #[{ on := 4, ground := Ground.data }], guard := none }) (v := ?_) rfl (by kernel_rfl) (by kernel_rfl) (by kernel_rfl) (fun _ _ _ h => h) (Or.inl ⟨by rfl, ?_⟩) (by assumption) ?_
                rotate_left
                · (intro w hSw; (try dsimp only at hSw); go_simp); all_goals (with_reducible rfl)
                try simp only [Act.put, List.setIfInBounds_toArray, List.set_cons_zero, List.set_cons_succ]
                refine wpAnyH_take (i := 6) (oi := { dst := some 47, op := Op.extract (Operand.tmp 41) 0, type := 31, pos := "law.go:107", after := #[{ on := 5, ground := Ground.data }], guard := none }) (v := ?_) rfl (by kernel_rfl) (by kernel_rfl) (by kernel_rfl) (fun _ _ _ h => h) (Or.inl ⟨by rfl, ?_⟩) (by assumption) ?_
                rotate_left
                · (intro w hSw; (try dsimp only at hSw); go_simp); all_goals (with_reducible rfl)
                try simp only [Act.put, List.setIfInBounds_toArray, List.set_cons_zero, List.set_cons_succ]
                refine wpAnyH_take (i := 7) (oi := { dst := some 48, op := Op.extract (Operand.tmp 41) 1, type := 26, pos := "law.go:107", after := #[{ on := 5, ground := Ground.data }, { on := 9, ground := Ground.gcOnly Departure.lateStores }], guard := none }) (v := ?_) rfl (by kernel_rfl) (by kernel_rfl) (by kernel_rfl) (fun _ _ _ h => h) (Or.inl ⟨by rfl, ?_⟩) (by assumption) ?_
                rotate_left
                · (intro w hSw; (try dsimp only at hSw); go_simp); all_goals (with_reducible rfl)
                try simp only [Act.put, List.setIfInBounds_toArray, List.set_cons_zero, List.set_cons_succ]
                refine wpAnyH_ready (rs := [8]) (by kernel_rfl) (by simp) ?_
                refine AllReadyH.cons (o := { dst := some 7, op := Op.alloc 31, type := 0, pos := "law.go:107", after := #[], guard := none }) rfl (fun K hK => ?_) ?_
                · -- alloc
                  (go_simp; have hz9 := newAt8 hbk #[.slice none 0 0] 31; have hz8 := hbz.size; (try simp only [size_alloc9] at hz9); replace hx4 := hx4.alloc (.cells #[.slice none 0 0] 31); (try replace h18 := h18.below ((Below.refl _ _).alloc (Nat.le_refl _) (.cells #[.slice none 0 0] 31))); (try replace h56 := h56.below ((Below.refl _ _).alloc (Nat.le_refl _) (.cells #[.slice none 0 0] 31))); (try replace hBk := hBk.below ((Below.refl _ _).alloc (Nat.le_refl _) (.cells #[.slice none 0 0] 31))); replace hbk := hbk.alloc hbk.size (.cells #[.slice none 0 0] 31); replace hbz := hbz.alloc hbz.size (.cells #[.slice none 0 0] 31))
                  refine hK.out _ _ ?_ (fun hHeld => ?_)
                  · (try dsimp only)
                    exact hx4
                  clear hK K
                  try simp only [Act.put, List.setIfInBounds_toArray, List.set_cons_zero, List.set_cons_succ]
                  refine wpAnyH_ready (rs := [9]) (by kernel_rfl) (by simp) ?_
                  refine AllReadyH.cons (o := { dst := none, op := Op.store 31 (Operand.tmp 7) (Operand.tmp 47), type := 0, pos := "law.go:107", after := #[{ on := 8, ground := Ground.data }, { on := 6, ground := Ground.data }, { on := 4, ground := Ground.chain }, { on := 0, ground := Ground.phase }, { on := 1, ground := Ground.phase }, { on := 2, ground := Ground.phase }, { on := 3, ground := Ground.phase }, { on := 4, ground := Ground.phase }, { on := 5, ground := Ground.phase }, { on := 6, ground := Ground.phase }, { on := 7, ground := Ground.textOnly Departure.lateStores }, { on := 8, ground := Ground.phase }], guard := none }) rfl (fun K hK => ?_) ?_
                  · -- store
                    (obtain ⟨a5, k5, c5, rfl⟩ := hBk.slice; obtain ⟨y0, f0⟩ := box1 hz9; have hne := At.ne9 hx4 hz9 (by decide); go_simp; replace hBk := hBk.setCell hz9 0 (.slice a5 k5 c5); replace hx4 := hx4.setCell (a := ⟨_, 0, none⟩) hne (.slice a5 k5 c5); replace hz9 := hz9.set 0 (.slice a5 k5 c5); replace hbz := hbz.setCell (p := ⟨_, 0, none⟩) hz8 (.slice a5 k5 c5); (try simp only [Array.length_toList] at hx4); (try simp only [Array.length_toList] at hbz); (try simp only [alloc_set9] at hx4); (try simp only [alloc_set9] at hBk); (try simp only [alloc_set9] at hz9); (try simp only [alloc_set9] at hbz); clear y0 f0 hne)
                    refine hK.out _ _ ?_ (fun hHeld => ?_)
                    · (try dsimp only)
                      exact hx4
                    clear hK K
                    try simp only [Act.put, List.setIfInBounds_toArray, List.set_cons_zero, List.set_cons_succ]
                    refine wpAnyH_take (i := 10) (oi := { dst := some 8, op := Op.assign (Operand.tmp 48), type := 26, pos := "law.go:107", after := #[{ on := 7, ground := Ground.data }, { on := 9, ground := Ground.chain }, { on := 0, ground := Ground.phase }, { on := 1, ground := Ground.phase }, { on := 2, ground := Ground.phase }, { on := 3, ground := Ground.phase }, { on := 4, ground := Ground.phase }, { on := 5, ground := Ground.phase }, { on := 6, ground := Ground.phase }, { on := 7, ground := Ground.phase }, { on := 8, ground := Ground.phase }, { on := 9, ground := Ground.phase }], guard := none }) (v := ?_) rfl (by kernel_rfl) (by kernel_rfl) (by kernel_rfl) (fun _ _ _ h => h) (Or.inl ⟨by rfl, ?_⟩) (by assumption) ?_
                    rotate_left
                    · (intro w hSw; (try dsimp only at hSw); go_simp); all_goals (with_reducible rfl)
                    try simp only [Act.put, List.setIfInBounds_toArray, List.set_cons_zero, List.set_cons_succ]
                    refine wpAnyH_done (by kernel_rfl) ?_ _
                    go_wp2_with fail
                    go_meet
                    exact ⟨_, _, rfl, rfl, hz9, Lib.hid hBk, hbz⟩
                  exact AllReadyH.nil
                exact AllReadyH.nil
              refine AllReadyH.cons (o := { dst := some 7, op := Op.alloc 31, type := 0, pos := "law.go:107", after := #[], guard := none }) rfl (fun K hK => ?_) ?_
              · -- alloc
                (go_simp; have hz9 := newAt8 hbk #[.slice none 0 0] 31; have hz8 := hbz.size; (try simp only [size_alloc9] at hz9); replace hx4 := hx4.alloc (.cells #[.slice none 0 0] 31); (try replace h18 := h18.below ((Below.refl _ _).alloc (Nat.le_refl _) (.cells #[.slice none 0 0] 31))); (try replace h56 := h56.below ((Below.refl _ _).alloc (Nat.le_refl _) (.cells #[.slice none 0 0] 31))); (try replace hBk := hBk.below ((Below.refl _ _).alloc (Nat.le_refl _) (.cells #[.slice none 0 0] 31))); replace hbk := hbk.alloc hbk.size (.cells #[.slice none 0 0] 31); replace hbz := hbz.alloc hbz.size (.cells #[.slice none 0 0] 31))
                refine hK.out _ _ ?_ (fun hHeld => ?_)
                · (try dsimp only)
                  exact hx4
                clear hK K
                try simp only [Act.put, List.setIfInBounds_toArray, List.set_cons_zero, List.set_cons_succ]
                refine wpAnyH_ready (rs := [4]) (by kernel_rfl) (by simp) ?_
                refine AllReadyH.cons (o := _) rfl (fun K hK => ?_) ?_
                · -- 61
                  (go_simp; refine Calls.mono (c61 _ _ _ _ h18 h56) ?_; rintro e W ⟨⟨u5, rfl, hB⟩, hk9⟩; have hBk := hB.mono hbk.size; clear hB h18 h56; replace hx4 := hx4.below hk9 hx4.lt; (try replace h18 := h18.below hk9); (try replace h56 := h56.below hk9); (try replace hz9 := hz9.below hk9 hz9.lt); replace hbk := hbk.trans (hk9.mono hbk.size); replace hbz := hbz.trans (hk9.mono hbz.size); clear hk9)
                  refine hK.out _ _ ?_ (fun hHeld => ?_)
                  · (try dsimp only)
                    exact hx4
                  clear hK K
                  try simp only [Act.put, List.setIfInBounds_toArray, List.set_cons_zero, List.set_cons_succ]
                  refine wpAnyH_take (i := 5) (oi := { dst := some 41, op := Op.move (Operand.tmp 46), type := 117, pos := "law.go:107", after := #[{ on := 4, ground := Ground.data }], guard := none }) (v := ?_) rfl (by kernel_rfl) (by kernel_rfl) (by kernel_rfl) (fun _ _ _ h => h) (Or.inl ⟨by rfl, ?_⟩) (by assumption) ?_
                  rotate_left
                  · (intro w hSw; (try dsimp only at hSw); go_simp); all_goals (with_reducible rfl)
                  try simp only [Act.put, List.setIfInBounds_toArray, List.set_cons_zero, List.set_cons_succ]
                  refine wpAnyH_take (i := 6) (oi := { dst := some 47, op := Op.extract (Operand.tmp 41) 0, type := 31, pos := "law.go:107", after := #[{ on := 5, ground := Ground.data }], guard := none }) (v := ?_) rfl (by kernel_rfl) (by kernel_rfl) (by kernel_rfl) (fun _ _ _ h => h) (Or.inl ⟨by rfl, ?_⟩) (by assumption) ?_
                  rotate_left
                  · (intro w hSw; (try dsimp only at hSw); go_simp); all_goals (with_reducible rfl)
                  try simp only [Act.put, List.setIfInBounds_toArray, List.set_cons_zero, List.set_cons_succ]
                  refine wpAnyH_take (i := 7) (oi := { dst := some 48, op := Op.extract (Operand.tmp 41) 1, type := 26, pos := "law.go:107", after := #[{ on := 5, ground := Ground.data }, { on := 9, ground := Ground.gcOnly Departure.lateStores }], guard := none }) (v := ?_) rfl (by kernel_rfl) (by kernel_rfl) (by kernel_rfl) (fun _ _ _ h => h) (Or.inl ⟨by rfl, ?_⟩) (by assumption) ?_
                  rotate_left
                  · (intro w hSw; (try dsimp only at hSw); go_simp); all_goals (with_reducible rfl)
                  try simp only [Act.put, List.setIfInBounds_toArray, List.set_cons_zero, List.set_cons_succ]
                  refine wpAnyH_ready (rs := [9]) (by kernel_rfl) (by simp) ?_
                  refine AllReadyH.cons (o := { dst := none, op := Op.store 31 (Operand.tmp 7) (Operand.tmp 47), type := 0, pos := "law.go:107", after := #[{ on := 8, ground := Ground.data }, { on := 6, ground := Ground.data }, { on := 4, ground := Ground.chain }, { on := 0, ground := Ground.phase }, { on := 1, ground := Ground.phase }, { on := 2, ground := Ground.phase }, { on := 3, ground := Ground.phase }, { on := 4, ground := Ground.phase }, { on := 5, ground := Ground.phase }, { on := 6, ground := Ground.phase }, { on := 7, ground := Ground.textOnly Departure.lateStores }, { on := 8, ground := Ground.phase }], guard := none }) rfl (fun K hK => ?_) ?_
                  · -- store
                    (obtain ⟨a5, k5, c5, rfl⟩ := hBk.slice; obtain ⟨y0, f0⟩ := box1 hz9; have hne := At.ne9 hx4 hz9 (by decide); go_simp; replace hBk := hBk.setCell hz9 0 (.slice a5 k5 c5); replace hx4 := hx4.setCell (a := ⟨_, 0, none⟩) hne (.slice a5 k5 c5); replace hz9 := hz9.set 0 (.slice a5 k5 c5); replace hbz := hbz.setCell (p := ⟨_, 0, none⟩) hz8 (.slice a5 k5 c5); (try simp only [Array.length_toList] at hx4); (try simp only [Array.length_toList] at hbz); (try simp only [alloc_set9] at hx4); (try simp only [alloc_set9] at hBk); (try simp only [alloc_set9] at hz9); (try simp only [alloc_set9] at hbz); clear y0 f0 hne)
                    refine hK.out _ _ ?_ (fun hHeld => ?_)
                    · (try dsimp only)
                      exact hx4
                    clear hK K
                    try simp only [Act.put, List.setIfInBounds_toArray, List.set_cons_zero, List.set_cons_succ]
                    refine wpAnyH_take (i := 10) (oi := { dst := some 8, op := Op.assign (Operand.tmp 48), type := 26, pos := "law.go:107", after := #[{ on := 7, ground := Ground.data }, { on := 9, ground := Ground.chain }, { on := 0, ground := Ground.phase }, { on := 1, ground := Ground.phase }, { on := 2, ground := Ground.phase }, { on := 3, ground := Ground.phase }, { on := 4, ground := Ground.phase }, { on := 5, ground := Ground.phase }, { on := 6, ground := Ground.phase }, { on := 7, ground := Ground.phase }, { on := 8, ground := Ground.phase }, { on := 9, ground := Ground.phase }], guard := none }) (v := ?_) rfl (by kernel_rfl) (by kernel_rfl) (by kernel_rfl) (fun _ _ _ h => h) (Or.inl ⟨by rfl, ?_⟩) (by assumption) ?_
                    rotate_left
                    · (intro w hSw; (try dsimp only at hSw); go_simp); all_goals (with_reducible rfl)
                    try simp only [Act.put, List.setIfInBounds_toArray, List.set_cons_zero, List.set_cons_succ]
                    refine wpAnyH_done (by kernel_rfl) ?_ _
                    go_wp2_with fail
                    go_meet
                    exact ⟨_, _, rfl, rfl, hz9, Lib.hid hBk, hbz⟩
                  exact AllReadyH.nil
                exact AllReadyH.nil
              exact AllReadyH.nil
            refine AllReadyH.cons (o := { dst := some 7, op := Op.alloc 31, type := 0, pos := "law.go:107", after := #[], guard := none }) rfl (fun K hK => ?_) ?_
            · -- alloc
              (go_simp; have hz9 := newAt8 hbk #[.slice none 0 0] 31; have hz8 := hbz.size; (try simp only [size_alloc9] at hz9); replace hx4 := hx4.alloc (.cells #[.slice none 0 0] 31); (try replace h18 := h18.below ((Below.refl _ _).alloc (Nat.le_refl _) (.cells #[.slice none 0 0] 31))); (try replace h56 := h56.below ((Below.refl _ _).alloc (Nat.le_refl _) (.cells #[.slice none 0 0] 31))); (try replace hBk := hBk.below ((Below.refl _ _).alloc (Nat.le_refl _) (.cells #[.slice none 0 0] 31))); replace hbk := hbk.alloc hbk.size (.cells #[.slice none 0 0] 31); replace hbz := hbz.alloc hbz.size (.cells #[.slice none 0 0] 31))
              refine hK.out _ _ ?_ (fun hHeld => ?_)
              · (try dsimp only)
                exact hx4
              clear hK K
              try simp only [Act.put, List.setIfInBounds_toArray, List.set_cons_zero, List.set_cons_succ]
              refine wpAnyH_ready (rs := [3]) (by kernel_rfl) (by simp) ?_
              refine AllReadyH.cons (o := _) rfl (fun K hK => ?_) ?_
              · -- 56
                (go_simp; refine Calls.mono (c56 _ hbk) ?_; rintro e W ⟨⟨a6, c6, rfl, hu⟩, hk9⟩; have h56 := hu.is; clear hu; replace hx4 := hx4.below hk9 hx4.lt; (try replace h18 := h18.below hk9); (try replace h56 := h56.below hk9); (try replace hz9 := hz9.below hk9 hz9.lt); replace hbk := hbk.trans (hk9.mono hbk.size); replace hbz := hbz.trans (hk9.mono hbz.size); clear hk9)
                refine hK.out _ _ ?_ (fun hHeld => ?_)
                · (try dsimp only)
                  exact hx4
                clear hK K
                try simp only [Act.put, List.setIfInBounds_toArray, List.set_cons_zero, List.set_cons_succ]
                refine wpAnyH_ready (rs := [4]) (by kernel_rfl) (by simp) ?_
                refine AllReadyH.cons (o := _) rfl (fun K hK => ?_) ?_
                · -- 61
                  (go_simp; refine Calls.mono (c61 _ _ _ _ h18 h56) ?_; rintro e W ⟨⟨u5, rfl, hB⟩, hk9⟩; have hBk := hB.mono hbk.size; clear hB h18 h56; replace hx4 := hx4.below hk9 hx4.lt; (try replace h18 := h18.below hk9); (try replace h56 := h56.below hk9); (try replace hz9 := hz9.below hk9 hz9.lt); replace hbk := hbk.trans (hk9.mono hbk.size); replace hbz := hbz.trans (hk9.mono hbz.size); clear hk9)
                  refine hK.out _ _ ?_ (fun hHeld => ?_)
                  · (try dsimp only)
                    exact hx4
                  clear hK K
                  try simp only [Act.put, List.setIfInBounds_toArray, List.set_cons_zero, List.set_cons_succ]
                  refine wpAnyH_take (i := 5) (oi := { dst := some 41, op := Op.move (Operand.tmp 46), type := 117, pos := "law.go:107", after := #[{ on := 4, ground := Ground.data }], guard := none }) (v := ?_) rfl (by kernel_rfl) (by kernel_rfl) (by kernel_rfl) (fun _ _ _ h => h) (Or.inl ⟨by rfl, ?_⟩) (by assumption) ?_
                  rotate_left
                  · (intro w hSw; (try dsimp only at hSw); go_simp); all_goals (with_reducible rfl)
                  try simp only [Act.put, List.setIfInBounds_toArray, List.set_cons_zero, List.set_cons_succ]
                  refine wpAnyH_take (i := 6) (oi := { dst := some 47, op := Op.extract (Operand.tmp 41) 0, type := 31, pos := "law.go:107", after := #[{ on := 5, ground := Ground.data }], guard := none }) (v := ?_) rfl (by kernel_rfl) (by kernel_rfl) (by kernel_rfl) (fun _ _ _ h => h) (Or.inl ⟨by rfl, ?_⟩) (by assumption) ?_
                  rotate_left
                  · (intro w hSw; (try dsimp only at hSw); go_simp); all_goals (with_reducible rfl)
                  try simp only [Act.put, List.setIfInBounds_toArray, List.set_cons_zero, List.set_cons_succ]
                  refine wpAnyH_take (i := 7) (oi := { dst := some 48, op := Op.extract (Operand.tmp 41) 1, type := 26, pos := "law.go:107", after := #[{ on := 5, ground := Ground.data }, { on := 9, ground := Ground.gcOnly Departure.lateStores }], guard := none }) (v := ?_) rfl (by kernel_rfl) (by kernel_rfl) (by kernel_rfl) (fun _ _ _ h => h) (Or.inl ⟨by rfl, ?_⟩) (by assumption) ?_
                  rotate_left
                  · (intro w hSw; (try dsimp only at hSw); go_simp); all_goals (with_reducible rfl)
                  try simp only [Act.put, List.setIfInBounds_toArray, List.set_cons_zero, List.set_cons_succ]
                  refine wpAnyH_ready (rs := [9]) (by kernel_rfl) (by simp) ?_
                  refine AllReadyH.cons (o := { dst := none, op := Op.store 31 (Operand.tmp 7) (Operand.tmp 47), type := 0, pos := "law.go:107", after := #[{ on := 8, ground := Ground.data }, { on := 6, ground := Ground.data }, { on := 4, ground := Ground.chain }, { on := 0, ground := Ground.phase }, { on := 1, ground := Ground.phase }, { on := 2, ground := Ground.phase }, { on := 3, ground := Ground.phase }, { on := 4, ground := Ground.phase }, { on := 5, ground := Ground.phase }, { on := 6, ground := Ground.phase }, { on := 7, ground := Ground.textOnly Departure.lateStores }, { on := 8, ground := Ground.phase }], guard := none }) rfl (fun K hK => ?_) ?_
                  · -- store
                    (obtain ⟨a5, k5, c5, rfl⟩ := hBk.slice; obtain ⟨y0, f0⟩ := box1 hz9; have hne := At.ne9 hx4 hz9 (by decide); go_simp; replace hBk := hBk.setCell hz9 0 (.slice a5 k5 c5); replace hx4 := hx4.setCell (a := ⟨_, 0, none⟩) hne (.slice a5 k5 c5); replace hz9 := hz9.set 0 (.slice a5 k5 c5); replace hbz := hbz.setCell (p := ⟨_, 0, none⟩) hz8 (.slice a5 k5 c5); (try simp only [Array.length_toList] at hx4); (try simp only [Array.length_toList] at hbz); (try simp only [alloc_set9] at hx4); (try simp only [alloc_set9] at hBk); (try simp only [alloc_set9] at hz9); (try simp only [alloc_set9] at hbz); clear y0 f0 hne)
                    refine hK.out _ _ ?_ (fun hHeld => ?_)
                    · (try dsimp only)
                      exact hx4
                    clear hK K
                    try simp only [Act.put, List.setIfInBounds_toArray, List.set_cons_zero, List.set_cons_succ]
                    refine wpAnyH_take (i := 10) (oi := { dst := some 8, op := Op.assign (Operand.tmp 48), type := 26, pos := "law.go:107", after := #[{ on := 7, ground := Ground.data }, { on := 9, ground := Ground.chain }, { on := 0, ground := Ground.phase }, { on := 1, ground := Ground.phase }, { on := 2, ground := Ground.phase }, { on := 3, ground := Ground.phase }, { on := 4, ground := Ground.phase }, { on := 5, ground := Ground.phase }, { on := 6, ground := Ground.phase }, { on := 7, ground := Ground.phase }, { on := 8, ground := Ground.phase }, { on := 9, ground := Ground.phase }], guard := none }) (v := ?_) rfl (by kernel_rfl) (by kernel_rfl) (by kernel_rfl) (fun _ _ _ h => h) (Or.inl ⟨by rfl, ?_⟩) (by assumption) ?_
                    rotate_left
                    · (intro w hSw; (try dsimp only at hSw); go_simp); all_goals (with_reducible rfl)
                    try simp only [Act.put, List.setIfInBounds_toArray, List.set_cons_zero, List.set_cons_succ]
                    refine wpAnyH_done (by kernel_rfl) ?_ _
                    go_wp2_with fail
                    go_meet
                    exact ⟨_, _, rfl, rfl, hz9, Lib.hid hBk, hbz⟩
                  exact AllReadyH.nil
                exact AllReadyH.nil
              exact AllReadyH.nil
            exact AllReadyH.nil
          refine AllReadyH.cons (o := { dst := some 7, op := Op.alloc 31, type := 0, pos := "law.go:107", after := #[], guard := none }) rfl (fun K hK => ?_) ?_
          · -- alloc
            (go_simp; have hz9 := newAt8 hbk #[.slice none 0 0] 31; have hz8 := hbz.size; (try simp only [size_alloc9] at hz9); replace hx4 := hx4.alloc (.cells #[.slice none 0 0] 31); (try replace h18 := h18.below ((Below.refl _ _).alloc (Nat.le_refl _) (.cells #[.slice none 0 0] 31))); (try replace h56 := h56.below ((Below.refl _ _).alloc (Nat.le_refl _) (.cells #[.slice none 0 0] 31))); (try replace hBk := hBk.below ((Below.refl _ _).alloc (Nat.le_refl _) (.cells #[.slice none 0 0] 31))); replace hbk := hbk.alloc hbk.size (.cells #[.slice none 0 0] 31); replace hbz := hbz.alloc hbz.size (.cells #[.slice none 0 0] 31))
            refine hK.out _ _ ?_ (fun hHeld => ?_)
            · (try dsimp only)
              exact hx4
            clear hK K
            try simp only [Act.put, List.setIfInBounds_toArray, List.set_cons_zero, List.set_cons_succ]
            refine wpAnyH_ready (rs := [1]) (by kernel_rfl) (by simp) ?_
            refine AllReadyH.cons (o := _) rfl (fun K hK => ?_) ?_
            · -- 18
              (go_simp; refine Calls.mono (c18 _ hbk) ?_; rintro e W ⟨⟨u, rfl, hu⟩, hk9⟩; have h18 := hu.is; clear hu; replace hx4 := hx4.below hk9 hx4.lt; (try replace h18 := h18.below hk9); (try replace h56 := h56.below hk9); (try replace hz9 := hz9.below hk9 hz9.lt); replace hbk := hbk.trans (hk9.mono hbk.size); replace hbz := hbz.trans (hk9.mono hbz.size); clear hk9)
              refine hK.out _ _ ?_ (fun hHeld => ?_)
              · (try dsimp only)
                exact hx4
              clear hK K
              try simp only [Act.put, List.setIfInBounds_toArray, List.set_cons_zero, List.set_cons_succ]
              refine wpAnyH_ready (rs := [3]) (by kernel_rfl) (by simp) ?_
              refine AllReadyH.cons (o := _) rfl (fun K hK => ?_) ?_
              · -- 56
                (go_simp; refine Calls.mono (c56 _ hbk) ?_; rintro e W ⟨⟨a6, c6, rfl, hu⟩, hk9⟩; have h56 := hu.is; clear hu; replace hx4 := hx4.below hk9 hx4.lt; (try replace h18 := h18.below hk9); (try replace h56 := h56.below hk9); (try replace hz9 := hz9.below hk9 hz9.lt); replace hbk := hbk.trans (hk9.mono hbk.size); replace hbz := hbz.trans (hk9.mono hbz.size); clear hk9)
                refine hK.out _ _ ?_ (fun hHeld => ?_)
                · (try dsimp only)
                  exact hx4
                clear hK K
                try simp only [Act.put, List.setIfInBounds_toArray, List.set_cons_zero, List.set_cons_succ]
                refine wpAnyH_ready (rs := [4]) (by kernel_rfl) (by simp) ?_
                refine AllReadyH.cons (o := _) rfl (fun K hK => ?_) ?_
                · -- 61
                  (go_simp; refine Calls.mono (c61 _ _ _ _ h18 h56) ?_; rintro e W ⟨⟨u5, rfl, hB⟩, hk9⟩; have hBk := hB.mono hbk.size; clear hB h18 h56; replace hx4 := hx4.below hk9 hx4.lt; (try replace h18 := h18.below hk9); (try replace h56 := h56.below hk9); (try replace hz9 := hz9.below hk9 hz9.lt); replace hbk := hbk.trans (hk9.mono hbk.size); replace hbz := hbz.trans (hk9.mono hbz.size); clear hk9)
                  refine hK.out _ _ ?_ (fun hHeld => ?_)
                  · (try dsimp only)
                    exact hx4
                  clear hK K
                  try simp only [Act.put, List.setIfInBounds_toArray, List.set_cons_zero, List.set_cons_succ]
                  refine wpAnyH_take (i := 5) (oi := { dst := some 41, op := Op.move (Operand.tmp 46), type := 117, pos := "law.go:107", after := #[{ on := 4, ground := Ground.data }], guard := none }) (v := ?_) rfl (by kernel_rfl) (by kernel_rfl) (by kernel_rfl) (fun _ _ _ h => h) (Or.inl ⟨by rfl, ?_⟩) (by assumption) ?_
                  rotate_left
                  · (intro w hSw; (try dsimp only at hSw); go_simp); all_goals (with_reducible rfl)
                  try simp only [Act.put, List.setIfInBounds_toArray, List.set_cons_zero, List.set_cons_succ]
                  refine wpAnyH_take (i := 6) (oi := { dst := some 47, op := Op.extract (Operand.tmp 41) 0, type := 31, pos := "law.go:107", after := #[{ on := 5, ground := Ground.data }], guard := none }) (v := ?_) rfl (by kernel_rfl) (by kernel_rfl) (by kernel_rfl) (fun _ _ _ h => h) (Or.inl ⟨by rfl, ?_⟩) (by assumption) ?_
                  rotate_left
                  · (intro w hSw; (try dsimp only at hSw); go_simp); all_goals (with_reducible rfl)
                  try simp only [Act.put, List.setIfInBounds_toArray, List.set_cons_zero, List.set_cons_succ]
                  refine wpAnyH_take (i := 7) (oi := { dst := some 48, op := Op.extract (Operand.tmp 41) 1, type := 26, pos := "law.go:107", after := #[{ on := 5, ground := Ground.data }, { on := 9, ground := Ground.gcOnly Departure.lateStores }], guard := none }) (v := ?_) rfl (by kernel_rfl) (by kernel_rfl) (by kernel_rfl) (fun _ _ _ h => h) (Or.inl ⟨by rfl, ?_⟩) (by assumption) ?_
                  rotate_left
                  · (intro w hSw; (try dsimp only at hSw); go_simp); all_goals (with_reducible rfl)
                  try simp only [Act.put, List.setIfInBounds_toArray, List.set_cons_zero, List.set_cons_succ]
                  refine wpAnyH_ready (rs := [9]) (by kernel_rfl) (by simp) ?_
                  refine AllReadyH.cons (o := { dst := none, op := Op.store 31 (Operand.tmp 7) (Operand.tmp 47), type := 0, pos := "law.go:107", after := #[{ on := 8, ground := Ground.data }, { on := 6, ground := Ground.data }, { on := 4, ground := Ground.chain }, { on := 0, ground := Ground.phase }, { on := 1, ground := Ground.phase }, { on := 2, ground := Ground.phase }, { on := 3, ground := Ground.phase }, { on := 4, ground := Ground.phase }, { on := 5, ground := Ground.phase }, { on := 6, ground := Ground.phase }, { on := 7, ground := Ground.textOnly Departure.lateStores }, { on := 8, ground := Ground.phase }], guard := none }) rfl (fun K hK => ?_) ?_
                  · -- store
                    (obtain ⟨a5, k5, c5, rfl⟩ := hBk.slice; obtain ⟨y0, f0⟩ := box1 hz9; have hne := At.ne9 hx4 hz9 (by decide); go_simp; replace hBk := hBk.setCell hz9 0 (.slice a5 k5 c5); replace hx4 := hx4.setCell (a := ⟨_, 0, none⟩) hne (.slice a5 k5 c5); replace hz9 := hz9.set 0 (.slice a5 k5 c5); replace hbz := hbz.setCell (p := ⟨_, 0, none⟩) hz8 (.slice a5 k5 c5); (try simp only [Array.length_toList] at hx4); (try simp only [Array.length_toList] at hbz); (try simp only [alloc_set9] at hx4); (try simp only [alloc_set9] at hBk); (try simp only [alloc_set9] at hz9); (try simp only [alloc_set9] at hbz); clear y0 f0 hne)
                    refine hK.out _ _ ?_ (fun hHeld => ?_)
                    · (try dsimp only)
                      exact hx4
                    clear hK K
                    try simp only [Act.put, List.setIfInBounds_toArray, List.set_cons_zero, List.set_cons_succ]
                    refine wpAnyH_take (i := 10) (oi := { dst := some 8, op := Op.assign (Operand.tmp 48), type := 26, pos := "law.go:107", after := #[{ on := 7, ground := Ground.data }, { on := 9, ground := Ground.chain }, { on := 0, ground := Ground.phase }, { on := 1, ground := Ground.phase }, { on := 2, ground := Ground.phase }, { on := 3, ground := Ground.phase }, { on := 4, ground := Ground.phase }, { on := 5, ground := Ground.phase }, { on := 6, ground := Ground.phase }, { on := 7, ground := Ground.phase }, { on := 8, ground := Ground.phase }, { on := 9, ground := Ground.phase }], guard := none }) (v := ?_) rfl (by kernel_rfl) (by kernel_rfl) (by kernel_rfl) (fun _ _ _ h => h) (Or.inl ⟨by rfl, ?_⟩) (by assumption) ?_
                    rotate_left
                    · (intro w hSw; (try dsimp only at hSw); go_simp); all_goals (with_reducible rfl)
                    try simp only [Act.put, List.setIfInBounds_toArray, List.set_cons_zero, List.set_cons_succ]
                    refine wpAnyH_done (by kernel_rfl) ?_ _
                    go_wp2_with fail
                    go_meet
                    exact ⟨_, _, rfl, rfl, hz9, Lib.hid hBk, hbz⟩
                  exact AllReadyH.nil
                exact AllReadyH.nil
              exact AllReadyH.nil
            exact AllReadyH.nil
          exact AllReadyH.nil
        case rest =>
        obtain ⟨b7, u7, rfl, rfl, hx7, HB7, hbc⟩ := hcut
        have hx4 := hx4.below hbc hx4.lt
        have hb := hb.trans (hbc.mono hb.size)
        generalize wc = W6 at hb hx4 hx7 HB7 ⊢
        clear hbc
        go_wp2_with fail
        go_cut [9, 10] (fun s9 s10 wx => ∃ b9 u9, s9 = .pointer (some ⟨b9, 0, none⟩) ∧ s10 = .int .i64 X2 ∧ At wx b9 #[u9] 31 ∧ Hid (BookA wx w.heap.size u9 X2 (fun M => M.Perm Q2)) ∧ Below W6.heap.size W6 wx)
        case first =>
          have c62 := HC.out.2.1
          have hbk : Below w.heap.size w W6.drew := hb.drew
          have hbz : Below W6.heap.size W6 W6.drew := (Below.refl _ _).drew
          clear hx7
          refine wp_region_held_drew (S := (fun W => At W w.heap.size #[.string (bA G.nm), .int .i64 G.ver, .int .i64 G.day, .string (bA G.t0), .string (bA G.t1), .int .i64 G.s0, .int .i64 G.s1, .slice ad G.k kc] 105)) (by kernel_rfl) ?_ (fun hHeld => ?_)
          · (try dsimp only)
            exact hx4
          replace hx4 : At W6.drew _ _ _ := hx4
          generalize W6.drew = W9 at hx4 hbk hbz ⊢
          have hHeld := hx4
          refine wpAnyH_take (i := 0) (oi := { dst := some 50, op := Op.move (Operand.tmp 0), type := 22, pos := "law.go:108", after := #[], guard := none }) (v := ?_) rfl (by kernel_rfl) (by kernel_rfl) (by kernel_rfl) (fun _ _ _ h => h) (Or.inl ⟨by rfl, ?_⟩) (by assumption) ?_
          rotate_left
          · (intro w hSw; (try dsimp only at hSw); go_simp); all_goals (with_reducible rfl)
          try simp only [Act.put, List.setIfInBounds_toArray, List.set_cons_zero, List.set_cons_succ]
          refine wpAnyH_take (i := 2) (oi := { dst := some 52, op := Op.load 105 (Operand.tmp 4), type := 105, pos := "law.go:108", after := #[], guard := none }) (v := ?_) rfl (by kernel_rfl) (by kernel_rfl) (by kernel_rfl) (fun _ _ _ h => h) (Or.inl ⟨by rfl, ?_⟩) (by assumption) ?_
          rotate_left
          · (intro w hSw; obtain ⟨⟨z0, z1, z2, z3, z4, z5, z6, z7⟩, -⟩ := box8 hSw; (try dsimp only at hSw); go_simp); all_goals (with_reducible rfl)
          try simp only [Act.put, List.setIfInBounds_toArray, List.set_cons_zero, List.set_cons_succ]
          refine wpAnyH_ready (rs := [1, 8]) (by kernel_rfl) (by simp) ?_
          refine AllReadyH.cons (o := _) rfl (fun K hK => ?_) ?_
          · -- 18
            (go_simp; refine Calls.mono (c18 _ hbk) ?_; rintro e W ⟨⟨u, rfl, hu⟩, hk9⟩; have h18 := hu.is; clear hu; replace hx4 := hx4.below hk9 hx4.lt; (try replace h18 := h18.below hk9); (try replace h56 := h56.below hk9); (try replace hz9 := hz9.below hk9 hz9.lt); replace hbk := hbk.trans (hk9.mono hbk.size); replace hbz := hbz.trans (hk9.mono hbz.size); clear hk9)
            refine hK.out _ _ ?_ (fun hHeld => ?_)
            · (try dsimp only)
              exact hx4
            clear hK K
            try simp only [Act.put, List.setIfInBounds_toArray, List.set_cons_zero, List.set_cons_succ]
            refine wpAnyH_ready (rs := [3, 8]) (by kernel_rfl) (by simp) ?_
            refine AllReadyH.cons (o := _) rfl (fun K hK => ?_) ?_
            · -- 56
              (go_simp; refine Calls.mono (c56 _ hbk) ?_; rintro e W ⟨⟨a6, c6, rfl, hu⟩, hk9⟩; have h56 := hu.is; clear hu; replace hx4 := hx4.below hk9 hx4.lt; (try replace h18 := h18.below hk9); (try replace h56 := h56.below hk9); (try replace hz9 := hz9.below hk9 hz9.lt); replace hbk := hbk.trans (hk9.mono hbk.size); replace hbz := hbz.trans (hk9.mono hbz.size); clear hk9)
              refine hK.out _ _ ?_ (fun hHeld => ?_)
              · (try dsimp only)
                exact hx4
              clear hK K
              try simp only [Act.put, List.setIfInBounds_toArray, List.set_cons_zero, List.set_cons_succ]
              refine wpAnyH_ready (rs := [4, 8]) (by kernel_rfl) (by simp) ?_
              refine AllReadyH.cons (o := _) rfl (fun K hK => ?_) ?_
              · -- 62
                (go_simp; refine Calls.mono (c62 _ _ _ _ h18 h56) ?_; rintro e W ⟨⟨u5, rfl, hB⟩, hk9⟩; have hBk := hB.mono hbk.size; clear hB h18 h56; replace hx4 := hx4.below hk9 hx4.lt; (try replace h18 := h18.below hk9); (try replace h56 := h56.below hk9); (try replace hz9 := hz9.below hk9 hz9.lt); replace hbk := hbk.trans (hk9.mono hbk.size); replace hbz := hbz.trans (hk9.mono hbz.size); clear hk9)
                refine hK.out _ _ ?_ (fun hHeld => ?_)
                · (try dsimp only)
                  exact hx4
                clear hK K
                try simp only [Act.put, List.setIfInBounds_toArray, List.set_cons_zero, List.set_cons_succ]
                refine wpAnyH_take (i := 5) (oi := { dst := some 49, op := Op.move (Operand.tmp 54), type := 117, pos := "law.go:108", after := #[{ on := 4, ground := Ground.data }], guard := none }) (v := ?_) rfl (by kernel_rfl) (by kernel_rfl) (by kernel_rfl) (fun _ _ _ h => h) (Or.inl ⟨by rfl, ?_⟩) (by assumption) ?_
                rotate_left
                · (intro w hSw; (try dsimp only at hSw); go_simp); all_goals (with_reducible rfl)
                try simp only [Act.put, List.setIfInBounds_toArray, List.set_cons_zero, List.set_cons_succ]
                refine wpAnyH_take (i := 6) (oi := { dst := some 55, op := Op.extract (Operand.tmp 49) 0, type := 31, pos := "law.go:108", after := #[{ on := 5, ground := Ground.data }], guard := none }) (v := ?_) rfl (by kernel_rfl) (by kernel_rfl) (by kernel_rfl) (fun _ _ _ h => h) (Or.inl ⟨by rfl, ?_⟩) (by assumption) ?_
                rotate_left
                · (intro w hSw; (try dsimp only at hSw); go_simp); all_goals (with_reducible rfl)
                try simp only [Act.put, List.setIfInBounds_toArray, List.set_cons_zero, List.set_cons_succ]
                refine wpAnyH_take (i := 7) (oi := { dst := some 56, op := Op.extract (Operand.tmp 49) 1, type := 26, pos := "law.go:108", after := #[{ on := 5, ground := Ground.data }, { on := 9, ground := Ground.gcOnly Departure.lateStores }], guard := none }) (v := ?_) rfl (by kernel_rfl) (by kernel_rfl) (by kernel_rfl) (fun _ _ _ h => h) (Or.inl ⟨by rfl, ?_⟩) (by assumption) ?_
                rotate_left
                · (intro w hSw; (try dsimp only at hSw); go_simp); all_goals (with_reducible rfl)
                try simp only [Act.put, List.setIfInBounds_toArray, List.set_cons_zero, List.set_cons_succ]
                refine wpAnyH_ready (rs := [8]) (by kernel_rfl) (by simp) ?_
                refine AllReadyH.cons (o := { dst := some 9, op := Op.alloc 31, type := 0, pos := "law.go:108", after := #[], guard := none }) rfl (fun K hK => ?_) ?_
                · -- alloc
                  (go_simp; have hz9 := newAt8 hbk #[.slice none 0 0] 31; have hz8 := hbz.size; (try simp only [size_alloc9] at hz9); replace hx4 := hx4.alloc (.cells #[.slice none 0 0] 31); (try replace h18 := h18.below ((Below.refl _ _).alloc (Nat.le_refl _) (.cells #[.slice none 0 0] 31))); (try replace h56 := h56.below ((Below.refl _ _).alloc (Nat.le_refl _) (.cells #[.slice none 0 0] 31))); (try replace hBk := hBk.below ((Below.refl _ _).alloc (Nat.le_refl _) (.cells #[.slice none 0 0] 31))); replace hbk := hbk.alloc hbk.size (.cells #[.slice none 0 0] 31); replace hbz := hbz.alloc hbz.size (.cells #[.slice none 0 0] 31))
                  refine hK.out _ _ ?_ (fun hHeld => ?_)
                  · (try dsimp only)
                    exact hx4
                  clear hK K
                  try simp only [Act.put, List.setIfInBounds_toArray, List.set_cons_zero, List.set_cons_succ]
                  refine wpAnyH_ready (rs := [9]) (by kernel_rfl) (by simp) ?_
                  refine AllReadyH.cons (o := { dst := none, op := Op.store 31 (Operand.tmp 9) (Operand.tmp 55), type := 0, pos := "law.go:108", after := #[{ on := 8, ground := Ground.data }, { on := 6, ground := Ground.data }, { on := 4, ground := Ground.chain }, { on := 0, ground := Ground.phase }, { on := 1, ground := Ground.phase }, { on := 2, ground := Ground.phase }, { on := 3, ground := Ground.phase }, { on := 4, ground := Ground.phase }, { on := 5, ground := Ground.phase }, { on := 6, ground := Ground.phase }, { on := 7, ground := Ground.textOnly Departure.lateStores }, { on := 8, ground := Ground.phase }], guard := none }) rfl (fun K hK => ?_) ?_
                  · -- store
                    (obtain ⟨a5, k5, c5, rfl⟩ := hBk.slice; obtain ⟨y0, f0⟩ := box1 hz9; have hne := At.ne9 hx4 hz9 (by decide); go_simp; replace hBk := hBk.setCell hz9 0 (.slice a5 k5 c5); replace hx4 := hx4.setCell (a := ⟨_, 0, none⟩) hne (.slice a5 k5 c5); replace hz9 := hz9.set 0 (.slice a5 k5 c5); replace hbz := hbz.setCell (p := ⟨_, 0, none⟩) hz8 (.slice a5 k5 c5); (try simp only [Array.length_toList] at hx4); (try simp only [Array.length_toList] at hbz); (try simp only [alloc_set9] at hx4); (try simp only [alloc_set9] at hBk); (try simp only [alloc_set9] at hz9); (try simp only [alloc_set9] at hbz); clear y0 f0 hne)
                    refine hK.out _ _ ?_ (fun hHeld => ?_)
                    · (try dsimp only)
                      exact hx4
                    clear hK K
                    try simp only [Act.put, List.setIfInBounds_toArray, List.set_cons_zero, List.set_cons_succ]
                    refine wpAnyH_take (i := 10) (oi := { dst := some 10, op := Op.assign (Operand.tmp 56), type := 26, pos := "law.go:108", after := #[{ on := 7, ground := Ground.data }, { on := 9, ground := Ground.chain }, { on := 0, ground := Ground.phase }, { on := 1, ground := Ground.phase }, { on := 2, ground := Ground.phase }, { on := 3, ground := Ground.phase }, { on := 4, ground := Ground.phase }, { on := 5, ground := Ground.phase }, { on := 6, ground := Ground.phase }, { on := 7, ground := Ground.phase }, { on := 8, ground := Ground.phase }, { on := 9, ground := Ground.phase }], guard := none }) (v := ?_) rfl (by kernel_rfl) (by kernel_rfl) (by kernel_rfl) (fun _ _ _ h => h) (Or.inl ⟨by rfl, ?_⟩) (by assumption) ?_
                    rotate_left
                    · (intro w hSw; (try dsimp only at hSw); go_simp); all_goals (with_reducible rfl)
                    try simp only [Act.put, List.setIfInBounds_toArray, List.set_cons_zero, List.set_cons_succ]
                    refine wpAnyH_done (by kernel_rfl) ?_ _
                    go_wp2_with fail
                    go_meet
                    exact ⟨_, _, rfl, rfl, hz9, Lib.hid hBk, hbz⟩
                  exact AllReadyH.nil
                exact AllReadyH.nil
              refine AllReadyH.cons (o := { dst := some 9, op := Op.alloc 31, type := 0, pos := "law.go:108", after := #[], guard := none }) rfl (fun K hK => ?_) ?_
              · -- alloc
                (go_simp; have hz9 := newAt8 hbk #[.slice none 0 0] 31; have hz8 := hbz.size; (try simp only [size_alloc9] at hz9); replace hx4 := hx4.alloc (.cells #[.slice none 0 0] 31); (try replace h18 := h18.below ((Below.refl _ _).alloc (Nat.le_refl _) (.cells #[.slice none 0 0] 31))); (try replace h56 := h56.below ((Below.refl _ _).alloc (Nat.le_refl _) (.cells #[.slice none 0 0] 31))); (try replace hBk := hBk.below ((Below.refl _ _).alloc (Nat.le_refl _) (.cells #[.slice none 0 0] 31))); replace hbk := hbk.alloc hbk.size (.cells #[.slice none 0 0] 31); replace hbz := hbz.alloc hbz.size (.cells #[.slice none 0 0] 31))
                refine hK.out _ _ ?_ (fun hHeld => ?_)
                · (try dsimp only)
                  exact hx4
                clear hK K
                try simp only [Act.put, List.setIfInBounds_toArray, List.set_cons_zero, List.set_cons_succ]
                refine wpAnyH_ready (rs := [4]) (by kernel_rfl) (by simp) ?_
                refine AllReadyH.cons (o := _) rfl (fun K hK => ?_) ?_
                · -- 62
                  (go_simp; refine Calls.mono (c62 _ _ _ _ h18 h56) ?_; rintro e W ⟨⟨u5, rfl, hB⟩, hk9⟩; have hBk := hB.mono hbk.size; clear hB h18 h56; replace hx4 := hx4.below hk9 hx4.lt; (try replace h18 := h18.below hk9); (try replace h56 := h56.below hk9); (try replace hz9 := hz9.below hk9 hz9.lt); replace hbk := hbk.trans (hk9.mono hbk.size); replace hbz := hbz.trans (hk9.mono hbz.size); clear hk9)
                  refine hK.out _ _ ?_ (fun hHeld => ?_)
                  · (try dsimp only)
                    exact hx4
                  clear hK K
                  try simp only [Act.put, List.setIfInBounds_toArray, List.set_cons_zero, List.set_cons_succ]
                  refine wpAnyH_take (i := 5) (oi := { dst := some 49, op := Op.move (Operand.tmp 54), type := 117, pos := "law.go:108", after := #[{ on := 4, ground := Ground.data }], guard := none }) (v := ?_) rfl (by kernel_rfl) (by kernel_rfl) (by kernel_rfl) (fun _ _ _ h => h) (Or.inl ⟨by rfl, ?_⟩) (by assumption) ?_
                  rotate_left
                  · (intro w hSw; (try dsimp only at hSw); go_simp); all_goals (with_reducible rfl)
                  try simp only [Act.put, List.setIfInBounds_toArray, List.set_cons_zero, List.set_cons_succ]
                  refine wpAnyH_take (i := 6) (oi := { dst := some 55, op := Op.extract (Operand.tmp 49) 0, type := 31, pos := "law.go:108", after := #[{ on := 5, ground := Ground.data }], guard := none }) (v := ?_) rfl (by kernel_rfl) (by kernel_rfl) (by kernel_rfl) (fun _ _ _ h => h) (Or.inl ⟨by rfl, ?_⟩) (by assumption) ?_
                  rotate_left
                  · (intro w hSw; (try dsimp only at hSw); go_simp); all_goals (with_reducible rfl)
                  try simp only [Act.put, List.setIfInBounds_toArray, List.set_cons_zero, List.set_cons_succ]
                  refine wpAnyH_take (i := 7) (oi := { dst := some 56, op := Op.extract (Operand.tmp 49) 1, type := 26, pos := "law.go:108", after := #[{ on := 5, ground := Ground.data }, { on := 9, ground := Ground.gcOnly Departure.lateStores }], guard := none }) (v := ?_) rfl (by kernel_rfl) (by kernel_rfl) (by kernel_rfl) (fun _ _ _ h => h) (Or.inl ⟨by rfl, ?_⟩) (by assumption) ?_
                  rotate_left
                  · (intro w hSw; (try dsimp only at hSw); go_simp); all_goals (with_reducible rfl)
                  try simp only [Act.put, List.setIfInBounds_toArray, List.set_cons_zero, List.set_cons_succ]
                  refine wpAnyH_ready (rs := [9]) (by kernel_rfl) (by simp) ?_
                  refine AllReadyH.cons (o := { dst := none, op := Op.store 31 (Operand.tmp 9) (Operand.tmp 55), type := 0, pos := "law.go:108", after := #[{ on := 8, ground := Ground.data }, { on := 6, ground := Ground.data }, { on := 4, ground := Ground.chain }, { on := 0, ground := Ground.phase }, { on := 1, ground := Ground.phase }, { on := 2, ground := Ground.phase }, { on := 3, ground := Ground.phase }, { on := 4, ground := Ground.phase }, { on := 5, ground := Ground.phase }, { on := 6, ground := Ground.phase }, { on := 7, ground := Ground.textOnly Departure.lateStores }, { on := 8, ground := Ground.phase }], guard := none }) rfl (fun K hK => ?_) ?_
                  · -- store
                    (obtain ⟨a5, k5, c5, rfl⟩ := hBk.slice; obtain ⟨y0, f0⟩ := box1 hz9; have hne := At.ne9 hx4 hz9 (by decide); go_simp; replace hBk := hBk.setCell hz9 0 (.slice a5 k5 c5); replace hx4 := hx4.setCell (a := ⟨_, 0, none⟩) hne (.slice a5 k5 c5); replace hz9 := hz9.set 0 (.slice a5 k5 c5); replace hbz := hbz.setCell (p := ⟨_, 0, none⟩) hz8 (.slice a5 k5 c5); (try simp only [Array.length_toList] at hx4); (try simp only [Array.length_toList] at hbz); (try simp only [alloc_set9] at hx4); (try simp only [alloc_set9] at hBk); (try simp only [alloc_set9] at hz9); (try simp only [alloc_set9] at hbz); clear y0 f0 hne)
                    refine hK.out _ _ ?_ (fun hHeld => ?_)
                    · (try dsimp only)
                      exact hx4
                    clear hK K
                    try simp only [Act.put, List.setIfInBounds_toArray, List.set_cons_zero, List.set_cons_succ]
                    refine wpAnyH_take (i := 10) (oi := { dst := some 10, op := Op.assign (Operand.tmp 56), type := 26, pos := "law.go:108", after := #[{ on := 7, ground := Ground.data }, { on := 9, ground := Ground.chain }, { on := 0, ground := Ground.phase }, { on := 1, ground := Ground.phase }, { on := 2, ground := Ground.phase }, { on := 3, ground := Ground.phase }, { on := 4, ground := Ground.phase }, { on := 5, ground := Ground.phase }, { on := 6, ground := Ground.phase }, { on := 7, ground := Ground.phase }, { on := 8, ground := Ground.phase }, { on := 9, ground := Ground.phase }], guard := none }) (v := ?_) rfl (by kernel_rfl) (by kernel_rfl) (by kernel_rfl) (fun _ _ _ h => h) (Or.inl ⟨by rfl, ?_⟩) (by assumption) ?_
                    rotate_left
                    · (intro w hSw; (try dsimp only at hSw); go_simp); all_goals (with_reducible rfl)
                    try simp only [Act.put, List.setIfInBounds_toArray, List.set_cons_zero, List.set_cons_succ]
                    refine wpAnyH_done (by kernel_rfl) ?_ _
                    go_wp2_with fail
                    go_meet
                    exact ⟨_, _, rfl, rfl, hz9, Lib.hid hBk, hbz⟩
                  exact AllReadyH.nil
                exact AllReadyH.nil
              exact AllReadyH.nil
            refine AllReadyH.cons (o := { dst := some 9, op := Op.alloc 31, type := 0, pos := "law.go:108", after := #[], guard := none }) rfl (fun K hK => ?_) ?_
            · -- alloc
              (go_simp; have hz9 := newAt8 hbk #[.slice none 0 0] 31; have hz8 := hbz.size; (try simp only [size_alloc9] at hz9); replace hx4 := hx4.alloc (.cells #[.slice none 0 0] 31); (try replace h18 := h18.below ((Below.refl _ _).alloc (Nat.le_refl _) (.cells #[.slice none 0 0] 31))); (try replace h56 := h56.below ((Below.refl _ _).alloc (Nat.le_refl _) (.cells #[.slice none 0 0] 31))); (try replace hBk := hBk.below ((Below.refl _ _).alloc (Nat.le_refl _) (.cells #[.slice none 0 0] 31))); replace hbk := hbk.alloc hbk.size (.cells #[.slice none 0 0] 31); replace hbz := hbz.alloc hbz.size (.cells #[.slice none 0 0] 31))
              refine hK.out _ _ ?_ (fun hHeld => ?_)
              · (try dsimp only)
                exact hx4
              clear hK K
              try simp only [Act.put, List.setIfInBounds_toArray, List.set_cons_zero, List.set_cons_succ]
              refine wpAnyH_ready (rs := [3]) (by kernel_rfl) (by simp) ?_
              refine AllReadyH.cons (o := _) rfl (fun K hK => ?_) ?_
              · -- 56
                (go_simp; refine Calls.mono (c56 _ hbk) ?_; rintro e W ⟨⟨a6, c6, rfl, hu⟩, hk9⟩; have h56 := hu.is; clear hu; replace hx4 := hx4.below hk9 hx4.lt; (try replace h18 := h18.below hk9); (try replace h56 := h56.below hk9); (try replace hz9 := hz9.below hk9 hz9.lt); replace hbk := hbk.trans (hk9.mono hbk.size); replace hbz := hbz.trans (hk9.mono hbz.size); clear hk9)
                refine hK.out _ _ ?_ (fun hHeld => ?_)
                · (try dsimp only)
                  exact hx4
                clear hK K
                try simp only [Act.put, List.setIfInBounds_toArray, List.set_cons_zero, List.set_cons_succ]
                refine wpAnyH_ready (rs := [4]) (by kernel_rfl) (by simp) ?_
                refine AllReadyH.cons (o := _) rfl (fun K hK => ?_) ?_
                · -- 62
                  (go_simp; refine Calls.mono (c62 _ _ _ _ h18 h56) ?_; rintro e W ⟨⟨u5, rfl, hB⟩, hk9⟩; have hBk := hB.mono hbk.size; clear hB h18 h56; replace hx4 := hx4.below hk9 hx4.lt; (try replace h18 := h18.below hk9); (try replace h56 := h56.below hk9); (try replace hz9 := hz9.below hk9 hz9.lt); replace hbk := hbk.trans (hk9.mono hbk.size); replace hbz := hbz.trans (hk9.mono hbz.size); clear hk9)
                  refine hK.out _ _ ?_ (fun hHeld => ?_)
                  · (try dsimp only)
                    exact hx4
                  clear hK K
                  try simp only [Act.put, List.setIfInBounds_toArray, List.set_cons_zero, List.set_cons_succ]
                  refine wpAnyH_take (i := 5) (oi := { dst := some 49, op := Op.move (Operand.tmp 54), type := 117, pos := "law.go:108", after := #[{ on := 4, ground := Ground.data }], guard := none }) (v := ?_) rfl (by kernel_rfl) (by kernel_rfl) (by kernel_rfl) (fun _ _ _ h => h) (Or.inl ⟨by rfl, ?_⟩) (by assumption) ?_
                  rotate_left
                  · (intro w hSw; (try dsimp only at hSw); go_simp); all_goals (with_reducible rfl)
                  try simp only [Act.put, List.setIfInBounds_toArray, List.set_cons_zero, List.set_cons_succ]
                  refine wpAnyH_take (i := 6) (oi := { dst := some 55, op := Op.extract (Operand.tmp 49) 0, type := 31, pos := "law.go:108", after := #[{ on := 5, ground := Ground.data }], guard := none }) (v := ?_) rfl (by kernel_rfl) (by kernel_rfl) (by kernel_rfl) (fun _ _ _ h => h) (Or.inl ⟨by rfl, ?_⟩) (by assumption) ?_
                  rotate_left
                  · (intro w hSw; (try dsimp only at hSw); go_simp); all_goals (with_reducible rfl)
                  try simp only [Act.put, List.setIfInBounds_toArray, List.set_cons_zero, List.set_cons_succ]
                  refine wpAnyH_take (i := 7) (oi := { dst := some 56, op := Op.extract (Operand.tmp 49) 1, type := 26, pos := "law.go:108", after := #[{ on := 5, ground := Ground.data }, { on := 9, ground := Ground.gcOnly Departure.lateStores }], guard := none }) (v := ?_) rfl (by kernel_rfl) (by kernel_rfl) (by kernel_rfl) (fun _ _ _ h => h) (Or.inl ⟨by rfl, ?_⟩) (by assumption) ?_
                  rotate_left
                  · (intro w hSw; (try dsimp only at hSw); go_simp); all_goals (with_reducible rfl)
                  try simp only [Act.put, List.setIfInBounds_toArray, List.set_cons_zero, List.set_cons_succ]
                  refine wpAnyH_ready (rs := [9]) (by kernel_rfl) (by simp) ?_
                  refine AllReadyH.cons (o := { dst := none, op := Op.store 31 (Operand.tmp 9) (Operand.tmp 55), type := 0, pos := "law.go:108", after := #[{ on := 8, ground := Ground.data }, { on := 6, ground := Ground.data }, { on := 4, ground := Ground.chain }, { on := 0, ground := Ground.phase }, { on := 1, ground := Ground.phase }, { on := 2, ground := Ground.phase }, { on := 3, ground := Ground.phase }, { on := 4, ground := Ground.phase }, { on := 5, ground := Ground.phase }, { on := 6, ground := Ground.phase }, { on := 7, ground := Ground.textOnly Departure.lateStores }, { on := 8, ground := Ground.phase }], guard := none }) rfl (fun K hK => ?_) ?_
                  · -- store
                    (obtain ⟨a5, k5, c5, rfl⟩ := hBk.slice; obtain ⟨y0, f0⟩ := box1 hz9; have hne := At.ne9 hx4 hz9 (by decide); go_simp; replace hBk := hBk.setCell hz9 0 (.slice a5 k5 c5); replace hx4 := hx4.setCell (a := ⟨_, 0, none⟩) hne (.slice a5 k5 c5); replace hz9 := hz9.set 0 (.slice a5 k5 c5); replace hbz := hbz.setCell (p := ⟨_, 0, none⟩) hz8 (.slice a5 k5 c5); (try simp only [Array.length_toList] at hx4); (try simp only [Array.length_toList] at hbz); (try simp only [alloc_set9] at hx4); (try simp only [alloc_set9] at hBk); (try simp only [alloc_set9] at hz9); (try simp only [alloc_set9] at hbz); clear y0 f0 hne)
                    refine hK.out _ _ ?_ (fun hHeld => ?_)
                    · (try dsimp only)
                      exact hx4
                    clear hK K
                    try simp only [Act.put, List.setIfInBounds_toArray, List.set_cons_zero, List.set_cons_succ]
                    refine wpAnyH_take (i := 10) (oi := { dst := some 10, op := Op.assign (Operand.tmp 56), type := 26, pos := "law.go:108", after := #[{ on := 7, ground := Ground.data }, { on := 9, ground := Ground.chain }, { on := 0, ground := Ground.phase }, { on := 1, ground := Ground.phase }, { on := 2, ground := Ground.phase }, { on := 3, ground := Ground.phase }, { on := 4, ground := Ground.phase }, { on := 5, ground := Ground.phase }, { on := 6, ground := Ground.phase }, { on := 7, ground := Ground.phase }, { on := 8, ground := Ground.phase }, { on := 9, ground := Ground.phase }], guard := none }) (v := ?_) rfl (by kernel_rfl) (by kernel_rfl) (by kernel_rfl) (fun _ _ _ h => h) (Or.inl ⟨by rfl, ?_⟩) (by assumption) ?_
                    rotate_left
                    · (intro w hSw; (try dsimp only at hSw); go_simp); all_goals (with_reducible rfl)
                    try simp only [Act.put, List.setIfInBounds_toArray, List.set_cons_zero, List.set_cons_succ]
                    refine wpAnyH_done (by kernel_rfl) ?_ _
                    go_wp2_with fail
                    go_meet
                    exact ⟨_, _, rfl, rfl, hz9, Lib.hid hBk, hbz⟩
                  exact AllReadyH.nil
                exact AllReadyH.nil
              exact AllReadyH.nil
            exact AllReadyH.nil
          refine AllReadyH.cons (o := { dst := some 9, op := Op.alloc 31, type := 0, pos := "law.go:108", after := #[], guard := none }) rfl (fun K hK => ?_) ?_
          · -- alloc
            (go_simp; have hz9 := newAt8 hbk #[.slice none 0 0] 31; have hz8 := hbz.size; (try simp only [size_alloc9] at hz9); replace hx4 := hx4.alloc (.cells #[.slice none 0 0] 31); (try replace h18 := h18.below ((Below.refl _ _).alloc (Nat.le_refl _) (.cells #[.slice none 0 0] 31))); (try replace h56 := h56.below ((Below.refl _ _).alloc (Nat.le_refl _) (.cells #[.slice none 0 0] 31))); (try replace hBk := hBk.below ((Below.refl _ _).alloc (Nat.le_refl _) (.cells #[.slice none 0 0] 31))); replace hbk := hbk.alloc hbk.size (.cells #[.slice none 0 0] 31); replace hbz := hbz.alloc hbz.size (.cells #[.slice none 0 0] 31))
            refine hK.out _ _ ?_ (fun hHeld => ?_)
            · (try dsimp only)
              exact hx4
            clear hK K
            try simp only [Act.put, List.setIfInBounds_toArray, List.set_cons_zero, List.set_cons_succ]
            refine wpAnyH_ready (rs := [1]) (by kernel_rfl) (by simp) ?_
            refine AllReadyH.cons (o := _) rfl (fun K hK => ?_) ?_
            · -- 18
              (go_simp; refine Calls.mono (c18 _ hbk) ?_; rintro e W ⟨⟨u, rfl, hu⟩, hk9⟩; have h18 := hu.is; clear hu; replace hx4 := hx4.below hk9 hx4.lt; (try replace h18 := h18.below hk9); (try replace h56 := h56.below hk9); (try replace hz9 := hz9.below hk9 hz9.lt); replace hbk := hbk.trans (hk9.mono hbk.size); replace hbz := hbz.trans (hk9.mono hbz.size); clear hk9)
              refine hK.out _ _ ?_ (fun hHeld => ?_)
              · (try dsimp only)
                exact hx4
              clear hK K
              try simp only [Act.put, List.setIfInBounds_toArray, List.set_cons_zero, List.set_cons_succ]
              refine wpAnyH_ready (rs := [3]) (by kernel_rfl) (by simp) ?_
              refine AllReadyH.cons (o := _) rfl (fun K hK => ?_) ?_
              · -- 56
                (go_simp; refine Calls.mono (c56 _ hbk) ?_; rintro e W ⟨⟨a6, c6, rfl, hu⟩, hk9⟩; have h56 := hu.is; clear hu; replace hx4 := hx4.below hk9 hx4.lt; (try replace h18 := h18.below hk9); (try replace h56 := h56.below hk9); (try replace hz9 := hz9.below hk9 hz9.lt); replace hbk := hbk.trans (hk9.mono hbk.size); replace hbz := hbz.trans (hk9.mono hbz.size); clear hk9)
                refine hK.out _ _ ?_ (fun hHeld => ?_)
                · (try dsimp only)
                  exact hx4
                clear hK K
                try simp only [Act.put, List.setIfInBounds_toArray, List.set_cons_zero, List.set_cons_succ]
                refine wpAnyH_ready (rs := [4]) (by kernel_rfl) (by simp) ?_
                refine AllReadyH.cons (o := _) rfl (fun K hK => ?_) ?_
                · -- 62
                  (go_simp; refine Calls.mono (c62 _ _ _ _ h18 h56) ?_; rintro e W ⟨⟨u5, rfl, hB⟩, hk9⟩; have hBk := hB.mono hbk.size; clear hB h18 h56; replace hx4 := hx4.below hk9 hx4.lt; (try replace h18 := h18.below hk9); (try replace h56 := h56.below hk9); (try replace hz9 := hz9.below hk9 hz9.lt); replace hbk := hbk.trans (hk9.mono hbk.size); replace hbz := hbz.trans (hk9.mono hbz.size); clear hk9)
                  refine hK.out _ _ ?_ (fun hHeld => ?_)
                  · (try dsimp only)
                    exact hx4
                  clear hK K
                  try simp only [Act.put, List.setIfInBounds_toArray, List.set_cons_zero, List.set_cons_succ]
                  refine wpAnyH_take (i := 5) (oi := { dst := some 49, op := Op.move (Operand.tmp 54), type := 117, pos := "law.go:108", after := #[{ on := 4, ground := Ground.data }], guard := none }) (v := ?_) rfl (by kernel_rfl) (by kernel_rfl) (by kernel_rfl) (fun _ _ _ h => h) (Or.inl ⟨by rfl, ?_⟩) (by assumption) ?_
                  rotate_left
                  · (intro w hSw; (try dsimp only at hSw); go_simp); all_goals (with_reducible rfl)
                  try simp only [Act.put, List.setIfInBounds_toArray, List.set_cons_zero, List.set_cons_succ]
                  refine wpAnyH_take (i := 6) (oi := { dst := some 55, op := Op.extract (Operand.tmp 49) 0, type := 31, pos := "law.go:108", after := #[{ on := 5, ground := Ground.data }], guard := none }) (v := ?_) rfl (by kernel_rfl) (by kernel_rfl) (by kernel_rfl) (fun _ _ _ h => h) (Or.inl ⟨by rfl, ?_⟩) (by assumption) ?_
                  rotate_left
                  · (intro w hSw; (try dsimp only at hSw); go_simp); all_goals (with_reducible rfl)
                  try simp only [Act.put, List.setIfInBounds_toArray, List.set_cons_zero, List.set_cons_succ]
                  refine wpAnyH_take (i := 7) (oi := { dst := some 56, op := Op.extract (Operand.tmp 49) 1, type := 26, pos := "law.go:108", after := #[{ on := 5, ground := Ground.data }, { on := 9, ground := Ground.gcOnly Departure.lateStores }], guard := none }) (v := ?_) rfl (by kernel_rfl) (by kernel_rfl) (by kernel_rfl) (fun _ _ _ h => h) (Or.inl ⟨by rfl, ?_⟩) (by assumption) ?_
                  rotate_left
                  · (intro w hSw; (try dsimp only at hSw); go_simp); all_goals (with_reducible rfl)
                  try simp only [Act.put, List.setIfInBounds_toArray, List.set_cons_zero, List.set_cons_succ]
                  refine wpAnyH_ready (rs := [9]) (by kernel_rfl) (by simp) ?_
                  refine AllReadyH.cons (o := { dst := none, op := Op.store 31 (Operand.tmp 9) (Operand.tmp 55), type := 0, pos := "law.go:108", after := #[{ on := 8, ground := Ground.data }, { on := 6, ground := Ground.data }, { on := 4, ground := Ground.chain }, { on := 0, ground := Ground.phase }, { on := 1, ground := Ground.phase }, { on := 2, ground := Ground.phase }, { on := 3, ground := Ground.phase }, { on := 4, ground := Ground.phase }, { on := 5, ground := Ground.phase }, { on := 6, ground := Ground.phase }, { on := 7, ground := Ground.textOnly Departure.lateStores }, { on := 8, ground := Ground.phase }], guard := none }) rfl (fun K hK => ?_) ?_
                  · -- store
                    (obtain ⟨a5, k5, c5, rfl⟩ := hBk.slice; obtain ⟨y0, f0⟩ := box1 hz9; have hne := At.ne9 hx4 hz9 (by decide); go_simp; replace hBk := hBk.setCell hz9 0 (.slice a5 k5 c5); replace hx4 := hx4.setCell (a := ⟨_, 0, none⟩) hne (.slice a5 k5 c5); replace hz9 := hz9.set 0 (.slice a5 k5 c5); replace hbz := hbz.setCell (p := ⟨_, 0, none⟩) hz8 (.slice a5 k5 c5); (try simp only [Array.length_toList] at hx4); (try simp only [Array.length_toList] at hbz); (try simp only [alloc_set9] at hx4); (try simp only [alloc_set9] at hBk); (try simp only [alloc_set9] at hz9); (try simp only [alloc_set9] at hbz); clear y0 f0 hne)
                    refine hK.out _ _ ?_ (fun hHeld => ?_)
                    · (try dsimp only)
                      exact hx4
                    clear hK K
                    try simp only [Act.put, List.setIfInBounds_toArray, List.set_cons_zero, List.set_cons_succ]
                    refine wpAnyH_take (i := 10) (oi := { dst := some 10, op := Op.assign (Operand.tmp 56), type := 26, pos := "law.go:108", after := #[{ on := 7, ground := Ground.data }, { on := 9, ground := Ground.chain }, { on := 0, ground := Ground.phase }, { on := 1, ground := Ground.phase }, { on := 2, ground := Ground.phase }, { on := 3, ground := Ground.phase }, { on := 4, ground := Ground.phase }, { on := 5, ground := Ground.phase }, { on := 6, ground := Ground.phase }, { on := 7, ground := Ground.phase }, { on := 8, ground := Ground.phase }, { on := 9, ground := Ground.phase }], guard := none }) (v := ?_) rfl (by kernel_rfl) (by kernel_rfl) (by kernel_rfl) (fun _ _ _ h => h) (Or.inl ⟨by rfl, ?_⟩) (by assumption) ?_
                    rotate_left
                    · (intro w hSw; (try dsimp only at hSw); go_simp); all_goals (with_reducible rfl)
                    try simp only [Act.put, List.setIfInBounds_toArray, List.set_cons_zero, List.set_cons_succ]
                    refine wpAnyH_done (by kernel_rfl) ?_ _
                    go_wp2_with fail
                    go_meet
                    exact ⟨_, _, rfl, rfl, hz9, Lib.hid hBk, hbz⟩
                  exact AllReadyH.nil
                exact AllReadyH.nil
              exact AllReadyH.nil
            exact AllReadyH.nil
          exact AllReadyH.nil
        case rest =>
        obtain ⟨b9, u9, rfl, rfl, hx9, HB9, hbc⟩ := hcut
        have hx4 := hx4.below hbc hx4.lt
        have hx7 := hx7.below hbc hx7.lt
        have HB7 := Lib.hid (HB7.out.below hbc)
        have hb := hb.trans (hbc.mono hb.size)
        generalize wc = W7 at hb hx4 hx7 hx9 HB7 HB9 ⊢
        clear hbc
        go_wp2_with fail
        go_at_call 18
        refine (c18 _ hb).mono ?_
        rintro e W8 ⟨⟨u, rfl, hu⟩, hk⟩
        have h18 := hu.is
        have hx4 := hx4.below hk hx4.lt
        have hx7 := hx7.below hk hx7.lt
        have hx9 := hx9.below hk hx9.lt
        have HB7 := Lib.hid (HB7.out.below hk)
        have HB9 := Lib.hid (HB9.out.below hk)
        have hb := hb.trans (hk.mono hb.size)
        have c63 := HC.out.2.2 _ _ h18
        clear hk hu c18 c56 h18
        go_wp2_with fail
        go_at_call 63
        refine c63.mono ?_
        rintro e W9 ⟨⟨u11, rfl, hB⟩, hk⟩
        have hB := hB.mono hb.size
        have hx4 := hx4.below hk hx4.lt
        have hx7 := hx7.below hk hx7.lt
        have hx9 := hx9.below hk hx9.lt
        have HB7 := Lib.hid (HB7.out.below hk)
        have HB9 := Lib.hid (HB9.out.below hk)
        have hb := hb.trans (hk.mono hb.size)
        have hal : Below W9.heap.size W9 (W9.alloc (.cells #[.slice none 0 0] 31)) := (Below.refl _ _).alloc (Nat.le_refl _) _
        have hx11 := at_new W9 #[.slice none 0 0] 31
        have hlt4 := hx4.lt
        have hlt7 := hx7.lt
        have hlt9 := hx9.lt
        have hx4 := hx4.below hal hx4.lt
        have hx7 := hx7.below hal hx7.lt
        have hx9 := hx9.below hal hx9.lt
        have HB7 := Lib.hid (HB7.out.below hal)
        have HB9 := Lib.hid (HB9.out.below hal)
        have hB := hB.below hal
        have hb11 : w.heap.size ≤ W9.heap.size := hb.size
        have hb := hb.trans (hal.mono hb.size)
        have h7 : b7 ≠ W9.heap.size := Nat.ne_of_lt hlt7
        have h9 : b9 ≠ W9.heap.size := Nat.ne_of_lt hlt9
        have h4 : w.heap.size ≠ W9.heap.size := Nat.ne_of_lt hlt4
        obtain ⟨a5, k5, c5, rfl⟩ := hB.slice
        obtain ⟨W10, hW10⟩ : ∃ W10, W9.alloc (.cells #[.slice none 0 0] 31) = W10 := ⟨_, rfl⟩
        rw [hW10] at hx4 hx7 hx9 hx11 HB7 HB9 hB hb
        have hv := fun (W : World) => W
        obtain ⟨y0, f0⟩ := box1 hx11
        have hx4b := hx4.setCell (a := ⟨W9.heap.size, 0, none⟩) h4 (.slice a5 k5 c5)
        have hx7b := hx7.setCell (a := ⟨W9.heap.size, 0, none⟩) h7 (.slice a5 k5 c5)
        have hx9b := hx9.setCell (a := ⟨W9.heap.size, 0, none⟩) h9 (.slice a5 k5 c5)
        have HB7b := Lib.hid (HB7.out.setCell hx11 0 (.slice a5 k5 c5))
        have HB9b := Lib.hid (HB9.out.setCell hx11 0 (.slice a5 k5 c5))
        have HB11 := Lib.hid (hB.setCell hx11 0 (.slice a5 k5 c5))
        have hx11b := hx11.set 0 (.slice a5 k5 c5)
        have hbb := hb.setCell (p := ⟨W9.heap.size, 0, none⟩) hb11 (.slice a5 k5 c5)
        have c21 : ∀ W, Below w.heap.size w W → Calls prog 21 #[.slice va n vc] W fun e w' => e = .returned (.int .i64 (bkE A)) ∧ Below W.heap.size W w' := fun W h => by
          rw [← HQ.out.1, bkE_list]
          exact bookR_w (HV.out.1.below h) (fun i hi => by have := HV.out.2.2 (g i) (by unfold listG; exact List.mem_map_of_mem (List.mem_range.2 hi)); omega)
        have c57 : ∀ W, Below w.heap.size w W → Calls prog 57 #[.agg #[.string (bA G.nm), .int .i64 G.ver, .int .i64 G.day, .string (bA G.t0), .string (bA G.t1), .int .i64 G.s0, .int .i64 G.s1, .slice ad G.k kc]] W fun e w' => e = .returned (.int .i64 (gmE G)) ∧ Below W.heap.size W w' := fun W h => gameR_w (HV.out.2.1.below h) (Nat.le_trans hGk (by decide))
        have c48 := nameE_w nm
        obtain ⟨E, hE⟩ : ∃ z, bkE A = z := ⟨_, rfl⟩
        obtain ⟨E2, hE2⟩ : ∃ z, gmE G = z := ⟨_, rfl⟩
        obtain ⟨E3, hE3⟩ : ∃ z, nmE nm = z := ⟨_, rfl⟩
        obtain ⟨F1, hF1⟩ : ∃ z, fstE [E, E2] = z := ⟨_, rfl⟩
        obtain ⟨F3, hF3⟩ : ∃ z, fstE [E, E3] = z := ⟨_, rfl⟩
        have HE := Lib.hid (And.intro hE (And.intro hE2 (And.intro hE3 (And.intro hF1 hF3))))
        simp only [hE] at c21
        simp only [hE2] at c57
        rw [hE3] at c48
        have cF1 := first2R_w E E2
        have cF3 := first2R_w E E3
        rw [hF1] at cF1
        rw [hF3] at cF3
        clear hk hal c63 hx4 hx7 hx9 hx11 HB7 HB9 hB hb h7 h9 h4 hlt4 hlt7 hlt9 hE hE2 hE3 hF1 hF3 hv
        go_wp2_with fail
        try rw [hW10]
        clear hW10 y0 f0
        generalize W10.setCell ⟨W9.heap.size, 0, none⟩ (.slice a5 k5 c5) = W11 at hx4b hx7b hx9b HB7b HB9b HB11 hx11b hbb ⊢
        generalize W9.heap.size = b11 at hx11b hb11 ⊢
        have hx11 : At W11 b11 #[.slice a5 k5 c5] 31 := hx11b
        clear hx11b hb11
        go_wp2_with fail
        go_at_call 21
        refine (c21 _ hbb).mono ?_
        rintro e W12 ⟨rfl, hk⟩
        have hx4 := hx4b.below hk hx4b.lt
        have hx7 := hx7b.below hk hx7b.lt
        have hx9 := hx9b.below hk hx9b.lt
        have hx11 := hx11.below hk hx11.lt
        have HB7 := Lib.hid (HB7b.out.below hk)
        have HB9 := Lib.hid (HB9b.out.below hk)
        have HB11 := Lib.hid (HB11.out.below hk)
        have hb := hbb.trans (hk.mono hbb.size)
        obtain ⟨⟨z0, z1, z2, z3, z4, z5, z6, z7⟩, -⟩ := box8 hx4
        clear hk c21 hx4b hx7b hx9b HB7b HB9b hbb
        go_wp2_with fail
        go_at_call 57
        refine (c57 _ hb).mono ?_
        rintro e W13 ⟨rfl, hk⟩
        have hal : Below W13.heap.size W13 (W13.alloc (.cells #[.int .i64 E, .int .i64 E2] 3)) := (Below.refl _ _).alloc (Nat.le_refl _) _
        have hk := hk.trans (hal.mono hk.size)
        have hx4 := hx4.below hk hx4.lt
        have hx7 := hx7.below hk hx7.lt
        have hx9 := hx9.below hk hx9.lt
        have hx11 := hx11.below hk hx11.lt
        have HB7 := Lib.hid (HB7.out.below hk)
        have HB9 := Lib.hid (HB9.out.below hk)
        have HB11 := Lib.hid (HB11.out.below hk)
        have hb := hb.trans (hk.mono hb.size)
        clear hk hal c57 z0 z1 z2 z3 z4 z5 z6 z7
        go_wp2_with fail
        go_at_call 22
        refine (cF1 _ _ (by simp) (by simp)).mono ?_
        rintro e W14 ⟨rfl, rfl⟩
        obtain ⟨W14, hW14⟩ : ∃ W14, W13.alloc (.cells #[.int .i64 E, .int .i64 E2] 3) = W14 := ⟨_, rfl⟩
        rw [hW14] at hx4 hx7 hx9 hx11 HB7 HB9 HB11 hb ⊢
        clear hW14 cF1
        go_wp2_with fail
        go_at_call 48
        refine (c48 _).mono ?_
        rintro e W15 ⟨rfl, rfl⟩
        have hal : Below W15.heap.size W15 (W15.alloc (.cells #[.int .i64 E, .int .i64 E3] 3)) := (Below.refl _ _).alloc (Nat.le_refl _) _
        have hx4 := hx4.below hal hx4.lt
        have hx7 := hx7.below hal hx7.lt
        have hx9 := hx9.below hal hx9.lt
        have hx11 := hx11.below hal hx11.lt
        have HB7 := Lib.hid (HB7.out.below hal)
        have HB9 := Lib.hid (HB9.out.below hal)
        have HB11 := Lib.hid (HB11.out.below hal)
        have hb := hb.trans (hal.mono hb.size)
        clear hal c48
        go_wp2_with fail
        go_at_call 22
        refine (cF3 _ _ (by simp) (by simp)).mono ?_
        rintro e W16 ⟨rfl, rfl⟩
        obtain ⟨W16, hW16⟩ : ∃ W16, W15.alloc (.cells #[.int .i64 E, .int .i64 E3] 3) = W16 := ⟨_, rfl⟩
        rw [hW16] at hx4 hx7 hx9 hx11 HB7 HB9 HB11 hb ⊢
        clear hW16 cF3
        go_upto_if 78 with fail
        go_cut [14, 16, 17, 18, 20, 78] from 79 to 114 (fun s14 s16 s17 s18 s20 s78 wx => s14 = .int .i64 X1 ∧ s16 = .int .i64 X2 ∧ Hid (BookG wx s17 X1 Q1) ∧ Hid (BookG wx s18 X2 Q2) ∧ Below W16.heap.size W16 wx)
        case first =>
          have hbz := Below.refl W16.heap.size W16
          have c64 : ∀ W, Below w.heap.size w W → Calls prog 64 #[.slice va n vc, .string (bA G.nm)] W fun e w' => e = .returned (.int .i64 (fdE A G.nm)) ∧ Below W.heap.size W w' := fun W h => by rw [← HQ.out.1]; exact findR_games (HV.out.1.below h) hn66 G.nm
          obtain ⟨K, hK⟩ : ∃ K, fdE A G.nm = K := ⟨_, rfl⟩
          have HK := Lib.hid hK
          simp only [hK] at c64
          clear hK hx7 hx9 hx11 HB7 HB9 HB11
          by_cases hF0 : F1 = 0
          · obtain ⟨hE0, hE20⟩ := two_nil HE.out.2.2.2.1 hF0
            have hq : (F1 == 0) = true := by simpa using hF0
            have HB := Lib.hid (bkE_book (HE.out.1.trans hE0))
            have HP1 : Hid (X1 = if 0 ≤ K then 9 else if G.ver = 1 then (if 64 ≤ n then 5 else 0) else 32) := Lib.hid (by
              rw [← HQ.out.2.1, putC_good (HE.out.1.trans hE0) (HE.out.2.1.trans hE20), HK.out, ← HQ.out.1, listG_len])
            have HP2 : Hid (X2 = if K < 0 then 10 else if G.ver = (atG A K.toNat).ver + 1 then 0 else 32) := Lib.hid (by
              rw [← HQ.out.2.2.1]
              unfold repC
              rw [HE.out.1, HE.out.2.1, HE.out.2.2.2.1, if_pos hF0, HK.out])
            have HFD := Lib.hid (fdE_cases A G.nm)
            have hn64 : n ≤ 64 := by
              have := HB.out.len
              rw [← HQ.out.1, listG_len] at this
              exact this
            obtain ⟨⟨z0, z1, z2, z3, z4, z5, z6, z7⟩, -⟩ := box8 hx4
            have HF0 := Lib.hid hF0
            clear hF0 hE0 hE20
            go_wp2_with fail
            go_at_call 64
            refine (c64 _ hb).mono ?_
            rintro e W17 ⟨rfl, hk⟩
            have hx4 := hx4.below hk hx4.lt
            have hbz := hbz.trans (hk.mono hbz.size)
            have hb := hb.trans (hk.mono hb.size)
            obtain ⟨⟨z0, z1, z2, z3, z4, z5, z6, z7⟩, -⟩ := box8 hx4
            clear hk c64
            by_cases hK0 : 0 ≤ K
            · obtain ⟨j, y, hj, hfj, hjn⟩ : ∃ (j : Nat) (y : GmD), A[j]? = some y ∧ fdE A G.nm = (j : Int) ∧ y.nm = G.nm := by
                rcases HFD.out with ⟨q, -⟩ | q
                · rw [HK.out] at q; omega
                · exact q
              have hKj : K = (j : Int) := by rw [← HK.out]; exact hfj
              have HX1 : Hid (X1 = 9) := Lib.hid (by rw [HP1.out, if_pos hK0])
              subst hKj
              have hjl : j < n := by
                have := (List.getElem?_eq_some_iff.1 hj).1
                rw [← HQ.out.1, listG_len] at this
                exact this
              have hyg : y = g j := by
                rw [← HQ.out.1, listG_get hjl] at hj
                exact (Option.some.inj hj).symm
              have hya : atG A j = y := by unfold atG; rw [hj]; rfl
              have HX2 : Hid (X2 = if G.ver = y.ver + 1 then 0 else 32) := Lib.hid (by
                rw [HP2.out, if_neg (by omega), Int.toNat_natCast, hya])
              have hvr := (gm_head (HB.out.ok y (List.mem_of_getElem? hj))).2.1
              obtain ⟨b, off, c1, a1, kc1, e1, -, -, p0, p1, p2, p3, p4, p5, p6, p7⟩ := (HV.out.1.below hb).at hjl
              simp only [Value.slice.injEq, true_and] at e1
              obtain ⟨rfl, rfl⟩ := e1
              rw [← hyg] at p1
              have HJ := Lib.hid (And.intro hj (And.intro hfj hjn))
              obtain ⟨yv, hyv⟩ : ∃ z, y.ver = z := ⟨_, rfl⟩
              rw [hyv] at p1 hvr HX2
              have i3 : IntKind.i64.wrap (yv + 1) = yv + 1 := IntWalk.i64_in _ (by omega)
              have i4 : (j : Int) < (n : Int) := by omega
              clear HP1 HP2 HFD hj hfj hjn hyg hya hyv p0 p2 p3 p4 p5 p6 p7
              by_cases hv0 : G.ver = yv + 1
              · have hvv : (G.ver != yv + 1) = false := by simpa using hv0
                have HX3 : Hid (X2 = 0) := Lib.hid (by rw [HX2.out, if_pos hv0])
                clear hv0
                have c66 : ∀ W, Below w.heap.size w W → Calls prog 66 #[.slice (some ⟨b, off, none⟩) n vc, .int .i64 (j : Int)] W fun e w' => (∃ u5, e = .returned u5 ∧ IsGames w' u5 (atG (A.eraseIdx j)) (n - 1)) ∧ Below W.heap.size W w' := fun W h => by rw [← HQ.out.1]; exact remR_games (HV.out.1.below h) hn66 hjl
                have HNE := Lib.hid (names_erase HB.out.names HJ.out.1)
                have c65 : ∀ W u, IsGames W u (atG (A.eraseIdx j)) (n - 1) → Below w.heap.size w W → Calls prog 65 #[u, .agg #[.string (bA G.nm), .int .i64 G.ver, .int .i64 G.day, .string (bA G.t0), .string (bA G.t1), .int .i64 G.s0, .int .i64 G.s1, .slice ad G.k kc]] W fun e w' => (∃ u5, e = .returned u5 ∧ BookG w' u5 X2 Q2) ∧ Below W.heap.size W w' := fun W u h hw => by
                  have hl : listG (atG (A.eraseIdx j)) (n - 1) = A.eraseIdx j := by
                    have : (A.eraseIdx j).length = n - 1 := by rw [List.length_eraseIdx, ← HQ.out.1, listG_len, if_pos hjl]
                    rw [← this]
                    exact atG_list _
                  have := putR_games (G := G) (a := ad) (c := kc) h (by omega) (HV.out.2.1.below hw) (by rw [hl]; exact sort_sub HB.out.sort (List.eraseIdx_sublist _ _)) (by rw [hl]; intro z hz; rw [← HJ.out.2.2]; exact HNE.out z hz)
                  rw [hl] at this
                  rw [HX3.out, ← HQ.out.2.2.2.2.2.1, HJ.out.2.1, Int.toNat_natCast]
                  exact this
                go_wp2_with fail
                go_quiet (fail)
                have hbz := belowN hbz nq
                have hb := belowN hb nq
                replace hx4 := atN hx4 nq
                clear z0 z1 z2 z3 z4 z5 z6 z7 p1
                generalize W17.drewN nq = W18 at hx4 hb hbz ⊢
                go_wp2_with fail
                have hbk := hb.drew
                have hbz := hbz.drew
                refine wp_region_held_drew (S := (fun W => At W w.heap.size #[.string (bA G.nm), .int .i64 G.ver, .int .i64 G.day, .string (bA G.t0), .string (bA G.t1), .int .i64 G.s0, .int .i64 G.s1, .slice ad G.k kc] 105)) (by kernel_rfl) ?_ (fun hHeld => ?_)
                · (try dsimp only)
                  exact hx4
                replace hx4 : At W18.drew _ _ _ := hx4
                generalize W18.drew = W9 at hx4 hbk hbz ⊢
                have hHeld := hx4
                refine wpAnyH_take (i := 0) (oi := { dst := some 97, op := Op.move (Operand.tmp 0), type := 22, pos := "law.go:133", after := #[], guard := none }) (v := ?_) rfl (by kernel_rfl) (by kernel_rfl) (by kernel_rfl) (fun _ _ _ h => h) (Or.inl ⟨by rfl, ?_⟩) (by assumption) ?_
                rotate_left
                · (intro w hSw; (try dsimp only at hSw); go_simp); all_goals (with_reducible rfl)
                try simp only [Act.put, List.setIfInBounds_toArray, List.set_cons_zero, List.set_cons_succ]
                refine wpAnyH_take (i := 1) (oi := { dst := some 98, op := Op.move (Operand.tmp 20), type := 3, pos := "law.go:133", after := #[], guard := none }) (v := ?_) rfl (by kernel_rfl) (by kernel_rfl) (by kernel_rfl) (fun _ _ _ h => h) (Or.inl ⟨by rfl, ?_⟩) (by assumption) ?_
                rotate_left
                · (intro w hSw; (try dsimp only at hSw); go_simp); all_goals (with_reducible rfl)
                try simp only [Act.put, List.setIfInBounds_toArray, List.set_cons_zero, List.set_cons_succ]
                refine wpAnyH_take (i := 3) (oi := { dst := some 100, op := Op.load 105 (Operand.tmp 4), type := 105, pos := "law.go:133", after := #[], guard := none }) (v := ?_) rfl (by kernel_rfl) (by kernel_rfl) (by kernel_rfl) (fun _ _ _ h => h) (Or.inl ⟨by rfl, ?_⟩) (by assumption) ?_
                rotate_left
                · (intro w hSw; obtain ⟨⟨z0, z1, z2, z3, z4, z5, z6, z7⟩, -⟩ := box8 hSw; (try dsimp only at hSw); go_simp); all_goals (with_reducible rfl)
                try simp only [Act.put, List.setIfInBounds_toArray, List.set_cons_zero, List.set_cons_succ]
                refine wpAnyH_ready (rs := [2]) (by kernel_rfl) (by simp) ?_
                refine AllReadyH.cons (o := _) rfl (fun K hK => ?_) ?_
                · -- 66
                  (go_simp; refine Calls.mono (c66 _ hbk) ?_; rintro e W ⟨⟨u66, rfl, h66⟩, hk9⟩; replace hx4 := hx4.below hk9 hx4.lt; replace hbk := hbk.trans (hk9.mono hbk.size); replace hbz := hbz.trans (hk9.mono hbz.size); clear hk9)
                  refine hK.out _ _ ?_ (fun hHeld => ?_)
                  · (try dsimp only)
                    exact hx4
                  clear hK K
                  try simp only [Act.put, List.setIfInBounds_toArray, List.set_cons_zero, List.set_cons_succ]
                  refine wpAnyH_ready (rs := [4]) (by kernel_rfl) (by simp) ?_
                  refine AllReadyH.cons (o := _) rfl (fun K hK => ?_) ?_
                  · -- 65
                    (go_simp; refine Calls.mono (c65 _ _ h66 hbk) ?_; rintro e W ⟨⟨u18, rfl, h65⟩, hk9⟩; clear h66; replace hx4 := hx4.below hk9 hx4.lt; replace hbk := hbk.trans (hk9.mono hbk.size); replace hbz := hbz.trans (hk9.mono hbz.size); clear hk9)
                    refine hK.out _ _ ?_ (fun hHeld => ?_)
                    · (try dsimp only)
                      exact hx4
                    clear hK K
                    try simp only [Act.put, List.setIfInBounds_toArray, List.set_cons_zero, List.set_cons_succ]
                    refine wpAnyH_take (i := 5) (oi := { dst := some 18, op := Op.assign (Operand.tmp 101), type := 22, pos := "law.go:133", after := #[{ on := 4, ground := Ground.data }, { on := 4, ground := Ground.chain }, { on := 0, ground := Ground.phase }, { on := 1, ground := Ground.phase }, { on := 2, ground := Ground.phase }, { on := 3, ground := Ground.phase }, { on := 4, ground := Ground.phase }], guard := none }) (v := ?_) rfl (by kernel_rfl) (by kernel_rfl) (by kernel_rfl) (fun _ _ _ h => h) (Or.inl ⟨by rfl, ?_⟩) (by assumption) ?_
                    rotate_left
                    · (intro w hSw; (try dsimp only at hSw); go_simp); all_goals (with_reducible rfl)
                    try simp only [Act.put, List.setIfInBounds_toArray, List.set_cons_zero, List.set_cons_succ]
                    refine wpAnyH_done (by kernel_rfl) ?_ _
                    have H65 := Lib.hid h65
                    clear h65 hx4 hbk
                    go_wp2_with fail
                    go_meet
                    exact ⟨by rw [HX1.out], by first | (rw [HX3.out]; done) | (rw [HX3.out, HF0.out]; done), Lib.hid (BookG.none (by rw [HX1.out]; decide)), H65, hbz⟩
                  exact AllReadyH.nil
                exact AllReadyH.nil
              · have hvv : (G.ver != yv + 1) = true := by simpa using hv0
                have HX3 : Hid (X2 = 32) := Lib.hid (by rw [HX2.out, if_neg hv0])
                clear hv0
                go_wp2_with fail
                go_quiet (fail)
                have hbz := belowN hbz nq
                clear z0 z1 z2 z3 z4 z5 z6 z7 p1 hx4 hb
                generalize W17.drewN nq = W18 at hbz ⊢
                go_wp2_with fail
                go_meet
                exact ⟨by rw [HX1.out], by rw [HX3.out], Lib.hid (BookG.none (by rw [HX1.out]; decide)), Lib.hid (BookG.none (by rw [HX3.out]; decide)), hbz⟩
            · have hKl : K < 0 := by omega
              have HX2 : Hid (X2 = 10) := Lib.hid (by rw [HP2.out, if_pos hKl])
              have hno : ∀ y ∈ A, y.nm ≠ G.nm := by
                rcases HFD.out with ⟨-, q⟩ | ⟨j, y, -, q, -⟩
                · exact q
                · rw [HK.out] at q; omega
              have HNO := Lib.hid hno
              clear HP2 HFD hno
              by_cases hv0 : G.ver = 1
              · have hvv : (G.ver != 1) = false := by simpa using hv0
                by_cases h64 : n = 64
                · have hnn : ((n : Int) == 64) = true := by rw [beq_iff_eq]; omega
                  have HX1 : Hid (X1 = 5) := Lib.hid (by rw [HP1.out, if_neg hK0, if_pos hv0, if_pos (by omega)])
                  clear hv0 h64 hx4 hb
                  go_wp2_with fail
                  go_meet
                  exact ⟨by rw [HX1.out], by rw [HX2.out], Lib.hid (BookG.none (by rw [HX1.out]; decide)), Lib.hid (BookG.none (by rw [HX2.out]; decide)), hbz⟩
                · have hnn : ((n : Int) == 64) = false := by rw [beq_eq_false_iff_ne]; omega
                  have HX1 : Hid (X1 = 0) := Lib.hid (by rw [HP1.out, if_neg hK0, if_pos hv0, if_neg (by omega)])
                  have c65 : Calls prog 65 #[.slice va n vc, .agg #[.string (bA G.nm), .int .i64 G.ver, .int .i64 G.day, .string (bA G.t0), .string (bA G.t1), .int .i64 G.s0, .int .i64 G.s1, .slice ad G.k kc]] W17 fun e w' => (∃ u5, e = .returned u5 ∧ BookG w' u5 X1 Q1) ∧ Below W17.heap.size W17 w' := by
                    have := putR_games (G := G) (a := ad) (c := kc) (HV.out.1.below hb) hn66 (HV.out.2.1.below hb) (by rw [HQ.out.1]; exact HB.out.sort) (by rw [HQ.out.1]; exact HNO.out)
                    rw [HQ.out.1] at this
                    rw [HX1.out, ← HQ.out.2.2.2.2.1]
                    exact this
                  clear hv0 h64 hx4
                  go_wp2_with fail
                  go_at_call 65
                  refine c65.mono ?_
                  rintro e W18 ⟨⟨u17, rfl, hG17⟩, hk⟩
                  have HG17 := Lib.hid hG17
                  have hbz := hbz.trans (hk.mono hbz.size)
                  clear c65 hk hb z0 z1 z2 z3 z4 z5 z6 z7 hG17
                  go_wp2_with fail
                  go_meet
                  exact ⟨by first | (rw [HX1.out]; done) | (rw [HX1.out, HF0.out]; done), by rw [HX2.out], HG17, Lib.hid (BookG.none (by rw [HX2.out]; decide)), hbz⟩
              · have hvv : (G.ver != 1) = true := by simpa using hv0
                have HX1 : Hid (X1 = 32) := Lib.hid (by rw [HP1.out, if_neg hK0, if_neg hv0])
                clear hv0 hx4 hb
                go_wp2_with fail
                go_meet
                exact ⟨by rw [HX1.out], by rw [HX2.out], Lib.hid (BookG.none (by rw [HX1.out]; decide)), Lib.hid (BookG.none (by rw [HX2.out]; decide)), hbz⟩
          · have hq : (F1 == 0) = false := by simpa using hF0
            have HF0 := Lib.hid hF0
            have HX : Hid (X1 = F1 ∧ X2 = F1) := Lib.hid (by
              have h1 : fstE [bkE A, gmE G] = F1 := by rw [HE.out.1, HE.out.2.1]; exact HE.out.2.2.2.1
              constructor
              · rw [← HQ.out.2.1, putC_bad (by rw [h1]; exact hF0), h1]
              · rw [← HQ.out.2.2.1]
                unfold repC
                rw [h1, if_neg hF0])
            clear hF0 c64
            go_wp2_with fail
            go_meet
            exact ⟨by rw [HX.out.1], by rw [HX.out.2], Lib.hid (BookG.none (by rw [HX.out.1]; exact HF0.out)), Lib.hid (BookG.none (by rw [HX.out.2]; exact HF0.out)), hbz⟩
        case rest =>
        obtain ⟨rfl, rfl, HG17, HG18, hbR⟩ := hcut
        have hx7 := hx7.below hbR hx7.lt
        have hx9 := hx9.below hbR hx9.lt
        have hx11 := hx11.below hbR hx11.lt
        have HB7 := Lib.hid (HB7.out.below hbR)
        have HB9 := Lib.hid (HB9.out.below hbR)
        have HB11 := Lib.hid (HB11.out.below hbR)
        have hb := hb.trans (hbR.mono hb.size)
        generalize wc = W17 at hx7 hx9 hx11 HB7 HB9 HB11 hb HG17 HG18 ⊢
        clear hbR hx4
        go_upto_if 116 with fail
        go_cut [15, 19, 21, 116] from 117 to 124 (fun s15 s19 s21 s116 wx => s15 = .int .i64 X3 ∧ Hid (BookG wx s19 X3 Q3) ∧ Below W17.heap.size W17 wx)
        case first =>
          have hbz := Below.refl W17.heap.size W17
          have c64 : Calls prog 64 #[.slice va n vc, .string (bA nm)] W17 fun e w' => e = .returned (.int .i64 (fdE A nm)) ∧ Below W17.heap.size W17 w' := by rw [← HQ.out.1]; exact findR_games (HV.out.1.below hb) hn66 nm
          obtain ⟨K, hK⟩ : ∃ K, fdE A nm = K := ⟨_, rfl⟩
          have HK := Lib.hid hK
          rw [hK] at c64
          clear hK hx7 hx9 hx11 HB7 HB9 HB11 HG17 HG18
          by_cases hF0 : F3 = 0
          · obtain ⟨hE0, hE30⟩ := two_nil HE.out.2.2.2.2 hF0
            have hq : (F3 == 0) = true := by simpa using hF0
            have HB := Lib.hid (bkE_book (HE.out.1.trans hE0))
            have HP : Hid (X3 = if K < 0 then 10 else 0) := Lib.hid (by
              rw [← HQ.out.2.2.2.1]
              unfold remC
              rw [HE.out.1, HE.out.2.2.1, HE.out.2.2.2.2, if_pos hF0, HK.out])
            have HFD := Lib.hid (fdE_cases A nm)
            have HF0 := Lib.hid hF0
            clear hF0 hE0 hE30
            go_wp2_with fail
            go_at_call 64
            refine c64.mono ?_
            rintro e W18 ⟨rfl, hk⟩
            have hbz := hbz.trans (hk.mono hbz.size)
            have hb := hb.trans (hk.mono hb.size)
            clear hk c64
            by_cases hKl : K < 0
            · have HX : Hid (X3 = 10) := Lib.hid (by rw [HP.out, if_pos hKl])
              clear hb
              go_wp2_with fail
              go_meet
              exact ⟨by rw [HX.out], Lib.hid (BookG.none (by rw [HX.out]; decide)), hbz⟩
            · have HX : Hid (X3 = 0) := Lib.hid (by rw [HP.out, if_neg hKl])
              obtain ⟨j, y, hj, hfj, hjn⟩ : ∃ (j : Nat) (y : GmD), A[j]? = some y ∧ fdE A nm = (j : Int) ∧ y.nm = nm := by
                rcases HFD.out with ⟨q, -⟩ | q
                · rw [HK.out] at q; omega
                · exact q
              have hKj : K = (j : Int) := by rw [← HK.out]; exact hfj
              subst hKj
              have hjl : j < n := by
                have := (List.getElem?_eq_some_iff.1 hj).1
                rw [← HQ.out.1, listG_len] at this
                exact this
              have c66 : Calls prog 66 #[.slice va n vc, .int .i64 (j : Int)] W18 fun e w' => (∃ u5, e = .returned u5 ∧ BookG w' u5 X3 Q3) ∧ Below W18.heap.size W18 w' := by
                refine (remR_games (HV.out.1.below hb) hn66 hjl).mono ?_
                rintro e w' ⟨⟨u5, rfl, hI⟩, hk⟩
                refine ⟨⟨u5, rfl, A.eraseIdx j, ?_, fun _ => ⟨?_, sort_sub HB.out.sort (List.eraseIdx_sublist _ _)⟩, fun e => absurd HX.out e⟩, hk⟩
                · rw [HQ.out.1] at hI
                  have : (A.eraseIdx j).length = n - 1 := by rw [List.length_eraseIdx, ← HQ.out.1, listG_len, if_pos hjl]
                  rw [this]
                  exact hI
                · rw [← HQ.out.2.2.2.2.2.2, hfj, Int.toNat_natCast]
              clear HP HFD hj hjn
              go_wp2_with fail
              go_at_call 66
              refine c66.mono ?_
              rintro e W19 ⟨⟨u19, rfl, hG19⟩, hk⟩
              have HG19 := Lib.hid hG19
              have hbz := hbz.trans (hk.mono hbz.size)
              clear c66 hk hb hG19
              go_wp2_with fail
              go_meet
              exact ⟨by first | (rw [HX.out]; done) | (rw [HX.out, HF0.out]; done), HG19, hbz⟩
          · have hq : (F3 == 0) = false := by simpa using hF0
            have HF0 := Lib.hid hF0
            have HX : Hid (X3 = F3) := Lib.hid (by
              rw [← HQ.out.2.2.2.1]
              unfold remC
              rw [HE.out.1, HE.out.2.2.1, HE.out.2.2.2.2, if_neg hF0])
            clear hF0 c64
            go_wp2_with fail
            go_meet
            exact ⟨by rw [HX.out], Lib.hid (BookG.none (by rw [HX.out]; exact HF0.out)), hbz⟩
        case rest =>
        obtain ⟨rfl, HG19, hbR⟩ := hcut
        have hx7 := hx7.below hbR hx7.lt
        have hx9 := hx9.below hbR hx9.lt
        have hx11 := hx11.below hbR hx11.lt
        have HB7 := Lib.hid (HB7.out.below hbR)
        have HB9 := Lib.hid (HB9.out.below hbR)
        have HB11 := Lib.hid (HB11.out.below hbR)
        have HG17 := Lib.hid (HG17.out.below hbR)
        have HG18 := Lib.hid (HG18.out.below hbR)
        have hb := hb.trans (hbR.mono hb.size)
        generalize wc = W18 at hx7 hx9 hx11 HB7 HB9 HB11 HG17 HG18 HG19 hb ⊢
        clear hbR
        have hQl : (Q1.length ≤ 1000 ∧ ∀ y ∈ Q1, y.k ≤ 1000) ∧ (Q2.length ≤ 1000 ∧ ∀ y ∈ Q2, y.k ≤ 1000) ∧ (Q3.length ≤ 1000 ∧ ∀ y ∈ Q3, y.k ≤ 1000) := by
          have hAl : A.length ≤ 66 := by rw [← HQ.out.1, listG_len]; exact hn66
          have hAk : ∀ y ∈ A, y.k ≤ 1000 := fun y hy => by rw [← HQ.out.1] at hy; exact Nat.le_trans (HV.out.2.2 y hy).1 (by decide)
          have hs : ∀ i, (A.eraseIdx i).length ≤ 66 := fun i => Nat.le_trans (List.eraseIdx_sublist _ _).length_le hAl
          have hs2 : ∀ i, ∀ y ∈ A.eraseIdx i, y.k ≤ 1000 := fun i y hy => hAk y ((List.eraseIdx_sublist _ _).mem hy)
          have hm : ∀ (l : List GmD), l.length ≤ 66 → (∀ y ∈ l, y.k ≤ 1000) → (l ++ [G]).length ≤ 1000 ∧ ∀ y ∈ l ++ [G], y.k ≤ 1000 := fun l h1 h2 => ⟨by rw [List.length_append, List.length_singleton]; omega, fun y hy => by
            rcases List.mem_append.1 hy with q | q
            · exact h2 y q
            · rw [List.mem_singleton.1 q]; omega⟩
          rw [← HQ.out.2.2.2.2.1, ← HQ.out.2.2.2.2.2.1, ← HQ.out.2.2.2.2.2.2]
          exact ⟨hm _ hAl hAk, hm _ (hs _) (hs2 _), Nat.le_trans (hs _) (by decide), hs2 _⟩
        obtain ⟨M1, m1, m2, m3, m4⟩ := book_same HB7.out HG17.out hQl.1.1 hQl.1.2
        obtain ⟨M2, k1, k2, k3, k4⟩ := book_same HB9.out HG18.out hQl.2.1.1 hQl.2.1.2
        obtain ⟨M3, l1, l2, l3, l4⟩ := book_same HB11.out HG19.out hQl.2.2.1 hQl.2.2.2
        have HM := Lib.hid (And.intro m1 (And.intro m2 (And.intro m3 (And.intro m4 (And.intro k1 (And.intro k2 (And.intro k3 (And.intro k4 (And.intro l1 (And.intro l2 (And.intro l3 l4)))))))))))
        have q1 : (X1 == X1) = true := by simp
        have q2 : (X2 == X2) = true := by simp
        have q3 : (X3 == X3) = true := by simp
        obtain ⟨a7, -⟩ := box1 hx7
        clear m1 m2 m3 m4 k1 k2 k3 k4 l1 l2 l3 l4 hQl HB7 HB9 HB11 HG17 HG18 HG19 HQ HE HV HC hn66 hGk
        go_wp2_with fail
        go_at_call 68
        refine (told_w HM.out.1 HM.out.2.2.1 HM.out.2.2.2.1).mono ?_
        rintro e W19 ⟨⟨u1, rfl, hu⟩, hk⟩
        have hu := hu.is
        have hx9 := hx9.below hk hx9.lt
        have hx11 := hx11.below hk hx11.lt
        have hb2 := hb.trans (hk.mono hb.size)
        have hk0 := hk
        have cS := sameGames_w hu (HM.out.2.1.below hk) (Nat.le_trans HM.out.2.2.1 (by decide)) (fun i hi => Nat.le_trans (HM.out.2.2.2.1 i hi) (by decide))
        clear hk hu a7 hb
        go_wp2_with fail
        go_at_call 67
        refine cS.mono ?_
        rintro e W20 ⟨rfl, hk⟩
        have hx9 := hx9.below hk hx9.lt
        have hx11 := hx11.below hk hx11.lt
        have hb2 := hb2.trans (hk.mono hb2.size)
        have hk0 := hk0.trans (hk.mono hk0.size)
        obtain ⟨a9, -⟩ := box1 hx9
        clear hk cS
        go_wp2_with fail
        go_at_call 68
        refine (told_w (HM.out.2.2.2.2.1.below hk0) HM.out.2.2.2.2.2.2.1 HM.out.2.2.2.2.2.2.2.1).mono ?_
        rintro e W21 ⟨⟨u2, rfl, hu⟩, hk⟩
        have hu := hu.is
        have hx11 := hx11.below hk hx11.lt
        have hb2 := hb2.trans (hk.mono hb2.size)
        have hk0 := hk0.trans (hk.mono hk0.size)
        have cS := sameGames_w hu (HM.out.2.2.2.2.2.1.below hk0) (Nat.le_trans HM.out.2.2.2.2.2.2.1 (by decide)) (fun i hi => Nat.le_trans (HM.out.2.2.2.2.2.2.2.1 i hi) (by decide))
        clear hk hu a9
        go_wp2_with fail
        go_at_call 67
        refine cS.mono ?_
        rintro e W22 ⟨rfl, hk⟩
        have hx11 := hx11.below hk hx11.lt
        have hb2 := hb2.trans (hk.mono hb2.size)
        have hk0 := hk0.trans (hk.mono hk0.size)
        obtain ⟨a11, -⟩ := box1 hx11
        clear hk cS
        go_wp2_with fail
        go_at_call 68
        refine (told_w (HM.out.2.2.2.2.2.2.2.2.1.below hk0) HM.out.2.2.2.2.2.2.2.2.2.2.1 HM.out.2.2.2.2.2.2.2.2.2.2.2).mono ?_
        rintro e W23 ⟨⟨u3, rfl, hu⟩, hk⟩
        have hu := hu.is
        have hb2 := hb2.trans (hk.mono hb2.size)
        have hk0 := hk0.trans (hk.mono hk0.size)
        have cS := sameGames_w hu (HM.out.2.2.2.2.2.2.2.2.2.1.below hk0) (Nat.le_trans HM.out.2.2.2.2.2.2.2.2.2.2.1 (by decide)) (fun i hi => Nat.le_trans (HM.out.2.2.2.2.2.2.2.2.2.2.2 i hi) (by decide))
        clear hk hu a11
        go_wp2_with fail
        go_at_call 67
        refine cS.mono ?_
        rintro e W24 ⟨rfl, hk⟩
        have hb2 := hb2.trans (hk.mono hb2.size)
        clear hk cS
        go_wp2_with fail
        go_ret
        exact ⟨by first | rfl | (simp [q1, q2, q3]), hb2⟩
end Go.Proofs.Tryz
