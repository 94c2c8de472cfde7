/- The law of SeasonStandings: by the kit's walk. -/
import Derived.Test.YtbfonnoebbjenaaGreatDoorAxSi
import Derived.Test.YtbfonnoebbjenaaGreatDoorAxU
import Derived.Test.YtbfonnoebbjenaaGreatDoorAxR
import Derived.Deep.CutRange
namespace Go.Proofs.Tryz
open Go Go.Am Go.RowKit Go.Op
set_option maxRecDepth 100000

theorem newAt9 {B : Nat} {w0 W : World} (_h : Below B w0 W) (cs : Array Value) (e : TypeId) : At (W.alloc (.cells cs e)) W.heap.size cs e := at_new _ _ _
theorem eq_std (s : Std) (W : World) : (Op.equalIn 10000 84 (.agg s.arr) (.agg s.arr)).run prog W = .ok true W := by
  have hS : prog.underlying 84 = some (.struct (prog.fieldsOf 84)) := by kernel_rfl
  have hp : prog.stoodInHeld 84 = false := by kernel_rfl
  rw [show (10000 : Nat) = 9999 + 1 from rfl, run_equalIn_agg W 9999 84 _ _ hS hp]
  simp only [Program.fieldsOf, underlying84]
  unfold Std.arr
  go_simp
theorem neq_std (s : Std) (W : World) : (binOp .neq 84 (.agg s.arr) (.agg s.arr)).run prog W = .ok (.bool false) W := by
  rw [run_neq_struct, eq_std]
  rfl
theorem eql_stk (s : Skk) (W : World) : (binOp .eql 72 (.agg s.arr) (.agg s.arr)).run prog W = .ok (.bool true) W := by
  have hS : prog.underlying 72 = some (.struct (prog.fieldsOf 72)) := by kernel_rfl
  have hp : prog.stoodInHeld 72 = false := by kernel_rfl
  have h : (Op.equalIn 10000 72 (.agg s.arr) (.agg s.arr)).run prog W = .ok true W := by
    rw [show (10000 : Nat) = 9999 + 1 from rfl, run_equalIn_agg W 9999 72 _ _ hS hp]
    simp only [Program.fieldsOf, underlying72]
    unfold Skk.arr
    go_simp
  simp only [binOp]
  simp [Op.equal, Op.maxDepth, h]
theorem StdAns.below {W W' : World} {B : Nat} {u : Value} {g : Nat → GmD} {n : Nat} (h : StdAns W B u g n) (hb : Below W.heap.size W W') : StdAns W' B u g n :=
  ⟨fun e => let ⟨S, q1, q2, q3⟩ := h.1 e; ⟨S, q1, q2, OwnRow.below q3 hb⟩, h.2⟩
theorem OwnRow.put4 {w : World} {base e m : Nat} {v : Value} {l : List (List Value)} (h : OwnRow w base e m v l) {b e' : Nat} {cs : Array Value} (ha : At w b cs e') (hne : e ≠ e') (v0 v1 v2 v3 : Value) : OwnRow (Go.Proofs.Tryz.put4 w b v0 v1 v2 v3) base e m v l :=
  OwnRow.setCell (OwnRow.setCell (OwnRow.setCell (OwnRow.setCell h ha hne 0 v0) (ha.set 0 v0) hne 1 v1) ((ha.set 0 v0).set 1 v1) hne 2 v2) (((ha.set 0 v0).set 1 v1).set 2 v2) hne 3 v3
theorem StdAns.put4 {W : World} {B b : Nat} {u : Value} {g : Nat → GmD} {n : Nat} {cs : Array Value} (h : StdAns W B u g n) (ha : At W b cs 72) {v0 v1 v2 v3 : Value} : StdAns (Go.Proofs.Tryz.put4 W b v0 v1 v2 v3) B u g n :=
  ⟨fun e => let ⟨S, q1, q2, q3⟩ := h.1 e; ⟨S, q1, q2, OwnRow.put4 q3 ha (by decide) _ _ _ _⟩, h.2⟩
def WantS (W : World) (B : Nat) (u : Value) (E : Int) (g : Nat → GmD) (n : Nat) : Prop := (E = 0 → ∃ S, S.Perm (stdsK g n) ∧ SortS S ∧ OwnRow W B 84 6 u (S.map Std.cells)) ∧ (E ≠ 0 → u = .slice none 0 0)
theorem WantS.below {W W' : World} {B : Nat} {u : Value} {E : Int} {g : Nat → GmD} {n : Nat} (h : WantS W B u E g n) (hb : Below W.heap.size W W') : WantS W' B u E g n :=
  ⟨fun e => let ⟨S, q1, q2, q3⟩ := h.1 e; ⟨S, q1, q2, OwnRow.below q3 hb⟩, h.2⟩
theorem WantS.put4 {W : World} {B b : Nat} {u : Value} {E : Int} {g : Nat → GmD} {n : Nat} {cs : Array Value} (h : WantS W B u E g n) (ha : At W b cs 72) {v0 v1 v2 v3 : Value} : WantS (Go.Proofs.Tryz.put4 W b v0 v1 v2 v3) B u E g n :=
  ⟨fun e => let ⟨S, q1, q2, q3⟩ := h.1 e; ⟨S, q1, q2, OwnRow.put4 q3 ha (by decide) _ _ _ _⟩, h.2⟩
theorem rowS {W : World} {B e : Nat} {u : Value} {S : List Std} (h : OwnRow W B e 6 u (S.map Std.cells)) : Row W u 6 S.length (fun r => (S[r]?.getD (zeroS [])).cells) := by
  have h1 := OwnRow.row h
  rw [List.length_map] at h1
  refine h1.congr fun i hi => ?_
  rw [List.getElem?_map, List.getElem?_eq_getElem hi]
  rfl
theorem twoR_w (x y : Int) (b : Nat) (W : World) (h0 : W.cell? ⟨b, 0, none⟩ = some (.int .i64 x)) (h1 : W.cell? ⟨b, 1, none⟩ = some (.int .i64 y)) : Calls prog 22 #[.slice (some ⟨b, 0, none⟩) 2 2] W fun e w' => e = .returned (.int .i64 (fstE [x, y])) ∧ w' = W := first2R_w x y b W h0 h1
theorem threeR_w (x y z : Int) (b : Nat) (W : World) (h0 : W.cell? ⟨b, 0, none⟩ = some (.int .i64 x)) (h1 : W.cell? ⟨b, 1, none⟩ = some (.int .i64 y)) (h2 : W.cell? ⟨b, 2, none⟩ = some (.int .i64 z)) :
    Calls prog 22 #[.slice (some ⟨b, 0, none⟩) 3 3] W fun e w' => e = .returned (.int .i64 (fstE [x, y, z])) ∧ w' = W :=
  firstR_w [x, y, z] b 3 W (by simp) fun j u h => by
    match j, h with
    | 0, h => simp at h; subst h; exact h0
    | 1, h => simp at h; subst h; exact h1
    | 2, h => simp at h; subst h; exact h2
    | j + 3, h => simp at h
set_option maxHeartbeats 12800000 in
theorem standings_law {w : World} (hlaid : Laid w) {v : Value} {g : Nat → GmD} {n : Nat} (hv : IsGames w v g n) (n0 n1 : List UInt8) (x y : Std) :
    Calls prog 6 #[v, .agg #[.string (bA n0), .string (bA n1)], .agg #[.string (bA x.t), .int .i64 x.w, .int .i64 x.l, .int .i64 x.d, .int .i64 x.f, .int .i64 x.a, .string (bA y.t), .int .i64 y.w, .int .i64 y.l, .int .i64 y.d, .int .i64 y.f, .int .i64 y.a]] w fun e w' => e = .returned (.bool true) ∧ Below w.heap.size w w' := by
  have HV := Lib.hid (And.intro hlaid hv)
  have c16 : ∀ W, Below w.heap.size w W → Calls prog 16 #[v, .int .i64 6] W fun e w' => AnsB e (ShortOk 6 g n) ∧ w' = W := fun W h => short_w (hv.below h) 6
  have hx4 := (at_new w #[.string (bA n0), .string (bA n1)] 82).alloc (.cells #[.string (bA x.t), .int .i64 x.w, .int .i64 x.l, .int .i64 x.d, .int .i64 x.f, .int .i64 x.a, .string (bA y.t), .int .i64 y.w, .int .i64 y.l, .int .i64 y.d, .int .i64 y.f, .int .i64 y.a] 85)
  have hx5 : At ((w.alloc (.cells #[.string (bA n0), .string (bA n1)] 82)).alloc (.cells #[.string (bA x.t), .int .i64 x.w, .int .i64 x.l, .int .i64 x.d, .int .i64 x.f, .int .i64 x.a, .string (bA y.t), .int .i64 y.w, .int .i64 y.l, .int .i64 y.d, .int .i64 y.f, .int .i64 y.a] 85)) (w.heap.size + 1) #[.string (bA x.t), .int .i64 x.w, .int .i64 x.l, .int .i64 x.d, .int .i64 x.f, .int .i64 x.a, .string (bA y.t), .int .i64 y.w, .int .i64 y.l, .int .i64 y.d, .int .i64 y.f, .int .i64 y.a] 85 := by
    have := at_new (w.alloc (.cells #[.string (bA n0), .string (bA n1)] 82)) #[.string (bA x.t), .int .i64 x.w, .int .i64 x.l, .int .i64 x.d, .int .i64 x.f, .int .i64 x.a, .string (bA y.t), .int .i64 y.w, .int .i64 y.l, .int .i64 y.d, .int .i64 y.f, .int .i64 y.a] 85
    simpa using this
  have hb0 : Below w.heap.size w ((w.alloc (.cells #[.string (bA n0), .string (bA n1)] 82)).alloc (.cells #[.string (bA x.t), .int .i64 x.w, .int .i64 x.l, .int .i64 x.d, .int .i64 x.f, .int .i64 x.a, .string (bA y.t), .int .i64 y.w, .int .i64 y.l, .int .i64 y.d, .int .i64 y.f, .int .i64 y.a] 85)) := ((Below.refl _ _).alloc (Nat.le_refl _) _).alloc (by simp) _
  obtain ⟨W0, hW0⟩ : ∃ W0, (w.alloc (.cells #[.string (bA n0), .string (bA n1)] 82)).alloc (.cells #[.string (bA x.t), .int .i64 x.w, .int .i64 x.l, .int .i64 x.d, .int .i64 x.f, .int .i64 x.a, .string (bA y.t), .int .i64 y.w, .int .i64 y.l, .int .i64 y.d, .int .i64 y.f, .int .i64 y.a] 85) = W0 := ⟨_, rfl⟩
  rw [hW0] at hx4 hx5 hb0
  have c15 := awake_w (hlaid.below hb0)
  obtain ⟨lv0, hr, -⟩ := hv
  obtain ⟨va, vc, rfl, hnc⟩ := hr.slice
  clear hlaid hr
  go_enter func6, ntmps6
  go_wp2_with fail
  try rw [hW0]
  clear hW0
  go_at_call 15
  refine c15.mono ?_
  rintro e W1 ⟨rfl, hb1⟩
  have hb := hb0.trans (hb1.mono hb0.size)
  have hx4 := hx4.below hb1 hx4.lt
  have hx5 := hx5.below hb1 hx5.lt
  clear c15 hb1 hb0
  have c15 := awake_w (HV.out.1.below hb)
  go_wp2_with fail
  go_at_call 16
  refine (c16 _ hb).mono ?_
  rintro e W2 ⟨⟨b1, rfl, h1⟩, rfl⟩
  obtain ⟨a0, a1⟩ := box2 hx4
  obtain ⟨⟨e0, e1, e2, e3, e4, e5, e6, e7, e8, e9, e10, e11⟩, -⟩ := box12 hx5
  cases b1 with
  | false =>
    clear c16 h1
    go_wp2_with fail
    go_at_call 15
    refine c15.mono ?_
    rintro e W4 ⟨rfl, hk⟩
    have hb4 := hb.trans (hk.mono hb.size)
    clear c15 hk hb
    go_wp2_with fail
    go_ret
    exact ⟨rfl, hb4⟩
  | true =>
    have hsh := h1 rfl
    clear c16 h1
    by_cases h60 : 60 < (bA n0).size
    · have h60' : (60 : Int) < ((bA n0).size : Int) := by omega
      go_wp2_with fail
      go_at_call 15
      refine c15.mono ?_
      rintro e W4 ⟨rfl, hk⟩
      have hb4 := hb.trans (hk.mono hb.size)
      clear c15 hk hb
      go_wp2_with fail
      go_ret
      exact ⟨rfl, hb4⟩
    have h60' : ¬ (60 : Int) < ((bA n0).size : Int) := by omega
    by_cases h61 : 60 < (bA n1).size
    · have h61' : (60 : Int) < ((bA n1).size : Int) := by omega
      go_wp2_with fail
      go_at_call 15
      refine c15.mono ?_
      rintro e W4 ⟨rfl, hk⟩
      have hb4 := hb.trans (hk.mono hb.size)
      clear c15 hk hb
      go_wp2_with fail
      go_ret
      exact ⟨rfl, hb4⟩
    have h61' : ¬ (60 : Int) < ((bA n1).size : Int) := by omega
    by_cases h62 : 60 < (bA x.t).size
    · have h62' : (60 : Int) < ((bA x.t).size : Int) := by omega
      go_wp2_with fail
      go_at_call 15
      refine c15.mono ?_
      rintro e W4 ⟨rfl, hk⟩
      have hb4 := hb.trans (hk.mono hb.size)
      clear c15 hk hb
      go_wp2_with fail
      go_ret
      exact ⟨rfl, hb4⟩
    have h62' : ¬ (60 : Int) < ((bA x.t).size : Int) := by omega
    by_cases h63 : 60 < (bA y.t).size
    · have h63' : (60 : Int) < ((bA y.t).size : Int) := by omega
      go_wp2_with fail
      go_at_call 15
      refine c15.mono ?_
      rintro e W4 ⟨rfl, hk⟩
      have hb4 := hb.trans (hk.mono hb.size)
      clear c15 hk hb
      go_wp2_with fail
      go_ret
      exact ⟨rfl, hb4⟩
    have h63' : ¬ (60 : Int) < ((bA y.t).size : Int) := by omega
    have hn66 : n ≤ 66 := hsh.2.1
    have hk : ∀ i, i < n → (g i).k ≤ 62 ∧ (g i).nm.length ≤ 60 := fun i hi => ⟨(hsh.2.2 i hi).1.2.2.2.2, (hsh.2.2 i hi).1.1⟩
    have HK := Lib.hid (And.intro hn66 hk)
    have c18 : ∀ W, Below w.heap.size w W → Calls prog 18 #[.slice va n vc] W _ := fun W h => book_of (HV.out.2.below h) (Nat.le_trans HK.out.1 (by decide)) (fun i hi => Nat.le_trans (HK.out.2 i hi).1 (by decide))
    have c45 : ∀ W u, IsGames W u g n → Calls prog 45 #[.agg #[u]] W _ := fun W u h => standings_w h HK.out.1 HK.out.2
    have c46 : ∀ W u, Below w.heap.size w W → IsGames W u g n → Calls prog 46 #[.agg #[u], .string (bA n0), .string (bA n1)] W _ := fun W u hb h => streakIn_w (HV.out.1.below hb) h HK.out.1 HK.out.2 n0 n1
    have c47 := fun W => behind_w x y W
    have c21 : ∀ W, Below w.heap.size w W → Calls prog 21 #[.slice va n vc] W _ := fun W h => bookR_w (HV.out.2.below h) (fun i hi => Nat.le_trans (HK.out.2 i hi).1 (by decide))
    obtain ⟨E, hE⟩ : ∃ E, bookE g n = E := ⟨_, rfl⟩
    obtain ⟨E2, hE2⟩ : ∃ E, siE g n n0 n1 = E := ⟨_, rfl⟩
    obtain ⟨SS, hSS⟩ : ∃ S, siS g n n0 n1 = S := ⟨_, rfl⟩
    obtain ⟨E3, hE3⟩ : ∃ E, behE x y = E := ⟨_, rfl⟩
    obtain ⟨V3, hV3⟩ : ∃ V, behV x y = V := ⟨_, rfl⟩
    have HE : Hid (bookE g n = E ∧ siE g n n0 n1 = E2 ∧ siS g n n0 n1 = SS ∧ behE x y = E3 ∧ behV x y = V3) := Lib.hid ⟨hE, hE2, hSS, hE3, hV3⟩
    simp only [hE] at c45 c21
    simp only [hE2, hSS] at c46
    simp only [hE3, hV3] at c47
    unfold Skk.arr at c46
    clear c15 hsh h60 h61 h62 h63 hn66 hk hE hE2 hSS hE3 hV3
    go_wp2_with fail
    clear h60' h61' h62' h63' a0 a1 e0 e1 e2 e3 e4 e5 e6 e7 e8 e9 e10 e11
    go_at_call 18
    refine (c18 _ hb).mono ?_
    rintro e W3 ⟨⟨u18, rfl, hu⟩, hk⟩
    have hg3 := hu.is
    have hb3 := hb.trans (hk.mono hb.size)
    have hx4 := hx4.below hk hx4.lt
    have hx5 := hx5.below hk hx5.lt
    clear hu hk hb
    go_wp2_with fail
    go_at_call 45
    refine (c45 _ _ hg3).mono ?_
    rintro e W4 ⟨⟨u7, rfl, hA7⟩, hk⟩
    have hb := hb3.trans (hk.mono hb3.size)
    have hx4 := hx4.below hk hx4.lt
    have hx5 := hx5.below hk hx5.lt
    have HA7 : Hid (StdAns W4 w.heap.size u7 g n) := Lib.hid ⟨fun h => let ⟨S, q1, q2, q3⟩ := hA7.1 h; ⟨S, q1, q2, OwnRow.mono q3 hb3.size⟩, hA7.2⟩
    clear hk hb3 hg3 hA7 c45
    go_wp2_with fail
    have hbk : Below W4.heap.size W4 W4.drew := (Below.refl _ _).drew
    have hlt4 : w.heap.size + 1 < W4.heap.size := hx5.lt
    go_cut [9, 10] (fun s9 s10 wx => ∃ b9, s9 = .pointer (some ⟨b9, 0, none⟩) ∧ s10 = .int .i64 E2 ∧ W4.heap.size ≤ b9 ∧ At wx b9 #[.int .i64 SS.g, .int .i64 SS.f, .int .i64 SS.l, .int .i64 SS.m] 73 ∧ Below W4.heap.size W4 wx)
    case first =>
      clear c47 c21
      refine wp_region_held_drew (S := (fun W => Below W4.heap.size W4 W)) (by kernel_rfl) ?_ (fun hHeld => ?_)
      · (try dsimp only)
        exact hbk
      refine wpAnyH_take (i := 0) (oi := { dst := some 61, op := Op.move (Operand.tmp 0), type := 22, pos := "law.go:286", after := #[], guard := none }) (v := ?_) rfl (by kernel_rfl) (by kernel_rfl) (by kernel_rfl) (fun _ _ _ h => h) (Or.inl ⟨by rfl, ?_⟩) (by assumption) ?_
      rotate_left
      · (intro w hSw; (try dsimp only at hSw); go_simp); all_goals (with_reducible rfl)
      try simp only [Act.put, List.setIfInBounds_toArray, List.set_cons_zero, List.set_cons_succ]
      refine wpAnyH_take (i := 2) (oi := { dst := some 63, op := Op.indexAddr 82 (Operand.tmp 4) (Operand.const (Value.int IntKind.i64 0)), type := 0, pos := "law.go:286", after := #[], guard := none }) (v := ?_) rfl (by kernel_rfl) (by kernel_rfl) (by kernel_rfl) (fun _ _ _ h => h) (Or.inl ⟨by rfl, ?_⟩) (by assumption) ?_
      rotate_left
      · (intro w hSw; (try dsimp only at hSw); go_simp); all_goals (with_reducible rfl)
      try simp only [Act.put, List.setIfInBounds_toArray, List.set_cons_zero, List.set_cons_succ]
      refine wpAnyH_take (i := 3) (oi := { dst := some 64, op := Op.load 9 (Operand.tmp 63), type := 9, pos := "law.go:286", after := #[{ on := 2, ground := Ground.data }], guard := none }) (v := ?_) rfl (by kernel_rfl) (by kernel_rfl) (by kernel_rfl) (fun _ _ _ h => h) (Or.inl ⟨by rfl, ?_⟩) (by assumption) ?_
      rotate_left
      · (intro w hSw; obtain ⟨a0, a1⟩ := box2 (hx4.below hSw hx4.lt); (try dsimp only at hSw); go_simp); all_goals (with_reducible rfl)
      try simp only [Act.put, List.setIfInBounds_toArray, List.set_cons_zero, List.set_cons_succ]
      refine wpAnyH_take (i := 4) (oi := { dst := some 65, op := Op.indexAddr 82 (Operand.tmp 4) (Operand.const (Value.int IntKind.i64 1)), type := 0, pos := "law.go:286", after := #[], guard := none }) (v := ?_) rfl (by kernel_rfl) (by kernel_rfl) (by kernel_rfl) (fun _ _ _ h => h) (Or.inl ⟨by rfl, ?_⟩) (by assumption) ?_
      rotate_left
      · (intro w hSw; (try dsimp only at hSw); go_simp); all_goals (with_reducible rfl)
      try simp only [Act.put, List.setIfInBounds_toArray, List.set_cons_zero, List.set_cons_succ]
      refine wpAnyH_take (i := 5) (oi := { dst := some 66, op := Op.load 9 (Operand.tmp 65), type := 9, pos := "law.go:286", after := #[{ on := 4, ground := Ground.data }], guard := none }) (v := ?_) rfl (by kernel_rfl) (by kernel_rfl) (by kernel_rfl) (fun _ _ _ h => h) (Or.inl ⟨by rfl, ?_⟩) (by assumption) ?_
      rotate_left
      · (intro w hSw; obtain ⟨a0, a1⟩ := box2 (hx4.below hSw hx4.lt); (try dsimp only at hSw); go_simp); all_goals (with_reducible rfl)
      try simp only [Act.put, List.setIfInBounds_toArray, List.set_cons_zero, List.set_cons_succ]
      refine wpAnyH_ready (rs := [1, 10]) (by kernel_rfl) (by simp) ?_
      refine AllReadyH.cons (o := _) rfl (fun K hK => ?_) ?_
      · -- 18
        (go_simp; refine Calls.mono (c18 _ (hb.trans (hbk.mono hb.size))) ?_; rintro e W ⟨⟨u, rfl, hu⟩, hk⟩; have h18 := hu.is; clear hu; replace hbk := hbk.trans (hk.mono hbk.size); (try replace hx9 := hx9.below hk hx9.lt); clear hk)
        refine hK.out _ _ ?_ (fun hHeld => ?_)
        · (try dsimp only)
          exact hbk
        clear hK K
        try simp only [Act.put, List.setIfInBounds_toArray, List.set_cons_zero, List.set_cons_succ]
        refine wpAnyH_ready (rs := [6, 10]) (by kernel_rfl) (by simp) ?_
        refine AllReadyH.cons (o := _) rfl (fun K hK => ?_) ?_
        · -- 46
          (go_simp; refine Calls.mono (c46 _ _ (hb.trans (hbk.mono hb.size)) h18) ?_; rintro e W ⟨rfl, hk⟩; clear h18; replace hbk := hbk.trans (hk.mono hbk.size); (try replace hx9 := hx9.below hk hx9.lt); have hcalled := True.intro; clear hk)
          refine hK.out _ _ ?_ (fun hHeld => ?_)
          · (try dsimp only)
            exact hbk
          clear hK K
          try simp only [Act.put, List.setIfInBounds_toArray, List.set_cons_zero, List.set_cons_succ]
          refine wpAnyH_take (i := 7) (oi := { dst := some 60, op := Op.move (Operand.tmp 67), type := 74, pos := "law.go:286", after := #[{ on := 6, ground := Ground.data }], guard := none }) (v := ?_) rfl (by kernel_rfl) (by kernel_rfl) (by kernel_rfl) (fun _ _ _ h => h) (Or.inl ⟨by rfl, ?_⟩) (by assumption) ?_
          rotate_left
          · (intro w hSw; (try dsimp only at hSw); go_simp); all_goals (with_reducible rfl)
          try simp only [Act.put, List.setIfInBounds_toArray, List.set_cons_zero, List.set_cons_succ]
          refine wpAnyH_take (i := 8) (oi := { dst := some 68, op := Op.extract (Operand.tmp 60) 0, type := 73, pos := "law.go:286", after := #[{ on := 7, ground := Ground.data }], guard := none }) (v := ?_) rfl (by kernel_rfl) (by kernel_rfl) (by kernel_rfl) (fun _ _ _ h => h) (Or.inl ⟨by rfl, ?_⟩) (by assumption) ?_
          rotate_left
          · (intro w hSw; (try dsimp only at hSw); go_simp); all_goals (with_reducible rfl)
          try simp only [Act.put, List.setIfInBounds_toArray, List.set_cons_zero, List.set_cons_succ]
          refine wpAnyH_take (i := 9) (oi := { dst := some 69, op := Op.extract (Operand.tmp 60) 1, type := 26, pos := "law.go:286", after := #[{ on := 7, ground := Ground.data }, { on := 11, ground := Ground.gcOnly Departure.lateStores }], guard := none }) (v := ?_) rfl (by kernel_rfl) (by kernel_rfl) (by kernel_rfl) (fun _ _ _ h => h) (Or.inl ⟨by rfl, ?_⟩) (by assumption) ?_
          rotate_left
          · (intro w hSw; (try dsimp only at hSw); go_simp); all_goals (with_reducible rfl)
          try simp only [Act.put, List.setIfInBounds_toArray, List.set_cons_zero, List.set_cons_succ]
          refine wpAnyH_ready (rs := [10]) (by kernel_rfl) (by simp) ?_
          refine AllReadyH.cons (o := { dst := some 9, op := Op.alloc 73, type := 0, pos := "law.go:286", after := #[], guard := none }) rfl (fun K hK => ?_) ?_
          · -- alloc
            (go_simp; first | (have hh := hcalled; have hx9 := newAt9 hbk #[.int .i64 SS.g, .int .i64 SS.f, .int .i64 SS.l, .int .i64 SS.m] 73; have hl9 := hbk.size; have hbk2 := hbk.alloc hbk.size (.cells #[.int .i64 SS.g, .int .i64 SS.f, .int .i64 SS.l, .int .i64 SS.m] 73); have hx0 := newAt9 hbk #[.int .i64 0, .int .i64 0, .int .i64 0, .int .i64 0] 73; replace hbk := hbk.alloc hbk.size (.cells #[.int .i64 0, .int .i64 0, .int .i64 0, .int .i64 0] 73)) | (have hx9 : At (W4.drew.alloc (.cells #[.int .i64 0, .int .i64 0, .int .i64 0, .int .i64 0] 73)) W4.heap.size #[.int .i64 0, .int .i64 0, .int .i64 0, .int .i64 0] 73 := at_new _ _ _; have hl9 : W4.heap.size ≤ W4.heap.size := Nat.le_refl _; replace hbk : Below W4.heap.size W4 (W4.drew.alloc (.cells #[.int .i64 0, .int .i64 0, .int .i64 0, .int .i64 0] 73)) := hbk.alloc hbk.size (.cells #[.int .i64 0, .int .i64 0, .int .i64 0, .int .i64 0] 73)) | (have hx9 := newAt9 hbk #[.int .i64 0, .int .i64 0, .int .i64 0, .int .i64 0] 73; have hl9 := hbk.size; (try replace h18 := h18.below ((Below.refl _ _).alloc (Nat.le_refl _) (.cells #[.int .i64 0, .int .i64 0, .int .i64 0, .int .i64 0] 73))); replace hbk := hbk.alloc hbk.size (.cells #[.int .i64 0, .int .i64 0, .int .i64 0, .int .i64 0] 73)))
            refine hK.out _ _ ?_ (fun hHeld => ?_)
            · (try dsimp only)
              exact hbk
            clear hK K
            try simp only [Act.put, List.setIfInBounds_toArray, List.set_cons_zero, List.set_cons_succ]
            refine wpAnyH_ready (rs := [11]) (by kernel_rfl) (by simp) ?_
            refine AllReadyH.cons (o := { dst := none, op := Op.store 73 (Operand.tmp 9) (Operand.tmp 68), type := 0, pos := "law.go:286", after := #[{ on := 10, ground := Ground.data }, { on := 8, ground := Ground.data }, { on := 6, ground := Ground.chain }, { on := 0, ground := Ground.phase }, { on := 1, ground := Ground.phase }, { on := 2, ground := Ground.phase }, { on := 3, ground := Ground.phase }, { on := 4, ground := Ground.phase }, { on := 5, ground := Ground.phase }, { on := 6, ground := Ground.phase }, { on := 7, ground := Ground.phase }, { on := 8, ground := Ground.phase }, { on := 9, ground := Ground.textOnly Departure.lateStores }, { on := 10, ground := Ground.phase }], guard := none }) rfl (fun K hK => ?_) ?_
            · -- store
              (first | (obtain ⟨⟨s0, s1, s2, s3⟩, f0, f1, f2, f3⟩ := box4 hx0; go_simp; replace hbk := hbk2; clear s0 s1 s2 s3 f0 f1 f2 f3) | (obtain ⟨⟨s0, s1, s2, s3⟩, f0, f1, f2, f3⟩ := box4 hx9; go_simp; replace hx9 := hx9.put4 (.int .i64 SS.g) (.int .i64 SS.f) (.int .i64 SS.l) (.int .i64 SS.m); replace hbk := below_put4 hbk hl9 (.int .i64 SS.g) (.int .i64 SS.f) (.int .i64 SS.l) (.int .i64 SS.m); clear s0 s1 s2 s3 f0 f1 f2 f3))
              refine hK.out _ _ ?_ (fun hHeld => ?_)
              · (try dsimp only)
                exact hbk
              clear hK K
              try simp only [Act.put, List.setIfInBounds_toArray, List.set_cons_zero, List.set_cons_succ]
              refine wpAnyH_take (i := 12) (oi := { dst := some 10, op := Op.assign (Operand.tmp 69), type := 26, pos := "law.go:286", after := #[{ on := 9, ground := Ground.data }, { on := 11, ground := Ground.chain }, { on := 0, ground := Ground.phase }, { on := 1, ground := Ground.phase }, { on := 2, ground := Ground.phase }, { on := 3, ground := Ground.phase }, { on := 4, ground := Ground.phase }, { on := 5, ground := Ground.phase }, { on := 6, ground := Ground.phase }, { on := 7, ground := Ground.phase }, { on := 8, ground := Ground.phase }, { on := 9, ground := Ground.phase }, { on := 10, ground := Ground.phase }, { on := 11, ground := Ground.phase }], guard := none }) (v := ?_) rfl (by kernel_rfl) (by kernel_rfl) (by kernel_rfl) (fun _ _ _ h => h) (Or.inl ⟨by rfl, ?_⟩) (by assumption) ?_
              rotate_left
              · (intro w hSw; (try dsimp only at hSw); go_simp); all_goals (with_reducible rfl)
              try simp only [Act.put, List.setIfInBounds_toArray, List.set_cons_zero, List.set_cons_succ]
              refine wpAnyH_done (by kernel_rfl) ?_ _
              go_wp2_with fail
              go_meet
              exact ⟨_, rfl, rfl, hl9, hx9, hbk⟩
            exact AllReadyH.nil
          exact AllReadyH.nil
        refine AllReadyH.cons (o := { dst := some 9, op := Op.alloc 73, type := 0, pos := "law.go:286", after := #[], guard := none }) rfl (fun K hK => ?_) ?_
        · -- alloc
          (go_simp; first | (have hh := hcalled; have hx9 := newAt9 hbk #[.int .i64 SS.g, .int .i64 SS.f, .int .i64 SS.l, .int .i64 SS.m] 73; have hl9 := hbk.size; have hbk2 := hbk.alloc hbk.size (.cells #[.int .i64 SS.g, .int .i64 SS.f, .int .i64 SS.l, .int .i64 SS.m] 73); have hx0 := newAt9 hbk #[.int .i64 0, .int .i64 0, .int .i64 0, .int .i64 0] 73; replace hbk := hbk.alloc hbk.size (.cells #[.int .i64 0, .int .i64 0, .int .i64 0, .int .i64 0] 73)) | (have hx9 : At (W4.drew.alloc (.cells #[.int .i64 0, .int .i64 0, .int .i64 0, .int .i64 0] 73)) W4.heap.size #[.int .i64 0, .int .i64 0, .int .i64 0, .int .i64 0] 73 := at_new _ _ _; have hl9 : W4.heap.size ≤ W4.heap.size := Nat.le_refl _; replace hbk : Below W4.heap.size W4 (W4.drew.alloc (.cells #[.int .i64 0, .int .i64 0, .int .i64 0, .int .i64 0] 73)) := hbk.alloc hbk.size (.cells #[.int .i64 0, .int .i64 0, .int .i64 0, .int .i64 0] 73)) | (have hx9 := newAt9 hbk #[.int .i64 0, .int .i64 0, .int .i64 0, .int .i64 0] 73; have hl9 := hbk.size; (try replace h18 := h18.below ((Below.refl _ _).alloc (Nat.le_refl _) (.cells #[.int .i64 0, .int .i64 0, .int .i64 0, .int .i64 0] 73))); replace hbk := hbk.alloc hbk.size (.cells #[.int .i64 0, .int .i64 0, .int .i64 0, .int .i64 0] 73)))
          refine hK.out _ _ ?_ (fun hHeld => ?_)
          · (try dsimp only)
            exact hbk
          clear hK K
          try simp only [Act.put, List.setIfInBounds_toArray, List.set_cons_zero, List.set_cons_succ]
          refine wpAnyH_ready (rs := [6]) (by kernel_rfl) (by simp) ?_
          refine AllReadyH.cons (o := _) rfl (fun K hK => ?_) ?_
          · -- 46
            (go_simp; refine Calls.mono (c46 _ _ (hb.trans (hbk.mono hb.size)) h18) ?_; rintro e W ⟨rfl, hk⟩; clear h18; replace hbk := hbk.trans (hk.mono hbk.size); (try replace hx9 := hx9.below hk hx9.lt); have hcalled := True.intro; clear hk)
            refine hK.out _ _ ?_ (fun hHeld => ?_)
            · (try dsimp only)
              exact hbk
            clear hK K
            try simp only [Act.put, List.setIfInBounds_toArray, List.set_cons_zero, List.set_cons_succ]
            refine wpAnyH_take (i := 7) (oi := { dst := some 60, op := Op.move (Operand.tmp 67), type := 74, pos := "law.go:286", after := #[{ on := 6, ground := Ground.data }], guard := none }) (v := ?_) rfl (by kernel_rfl) (by kernel_rfl) (by kernel_rfl) (fun _ _ _ h => h) (Or.inl ⟨by rfl, ?_⟩) (by assumption) ?_
            rotate_left
            · (intro w hSw; (try dsimp only at hSw); go_simp); all_goals (with_reducible rfl)
            try simp only [Act.put, List.setIfInBounds_toArray, List.set_cons_zero, List.set_cons_succ]
            refine wpAnyH_take (i := 8) (oi := { dst := some 68, op := Op.extract (Operand.tmp 60) 0, type := 73, pos := "law.go:286", after := #[{ on := 7, ground := Ground.data }], guard := none }) (v := ?_) rfl (by kernel_rfl) (by kernel_rfl) (by kernel_rfl) (fun _ _ _ h => h) (Or.inl ⟨by rfl, ?_⟩) (by assumption) ?_
            rotate_left
            · (intro w hSw; (try dsimp only at hSw); go_simp); all_goals (with_reducible rfl)
            try simp only [Act.put, List.setIfInBounds_toArray, List.set_cons_zero, List.set_cons_succ]
            refine wpAnyH_take (i := 9) (oi := { dst := some 69, op := Op.extract (Operand.tmp 60) 1, type := 26, pos := "law.go:286", after := #[{ on := 7, ground := Ground.data }, { on := 11, ground := Ground.gcOnly Departure.lateStores }], guard := none }) (v := ?_) rfl (by kernel_rfl) (by kernel_rfl) (by kernel_rfl) (fun _ _ _ h => h) (Or.inl ⟨by rfl, ?_⟩) (by assumption) ?_
            rotate_left
            · (intro w hSw; (try dsimp only at hSw); go_simp); all_goals (with_reducible rfl)
            try simp only [Act.put, List.setIfInBounds_toArray, List.set_cons_zero, List.set_cons_succ]
            refine wpAnyH_ready (rs := [11]) (by kernel_rfl) (by simp) ?_
            refine AllReadyH.cons (o := { dst := none, op := Op.store 73 (Operand.tmp 9) (Operand.tmp 68), type := 0, pos := "law.go:286", after := #[{ on := 10, ground := Ground.data }, { on := 8, ground := Ground.data }, { on := 6, ground := Ground.chain }, { on := 0, ground := Ground.phase }, { on := 1, ground := Ground.phase }, { on := 2, ground := Ground.phase }, { on := 3, ground := Ground.phase }, { on := 4, ground := Ground.phase }, { on := 5, ground := Ground.phase }, { on := 6, ground := Ground.phase }, { on := 7, ground := Ground.phase }, { on := 8, ground := Ground.phase }, { on := 9, ground := Ground.textOnly Departure.lateStores }, { on := 10, ground := Ground.phase }], guard := none }) rfl (fun K hK => ?_) ?_
            · -- store
              (first | (obtain ⟨⟨s0, s1, s2, s3⟩, f0, f1, f2, f3⟩ := box4 hx0; go_simp; replace hbk := hbk2; clear s0 s1 s2 s3 f0 f1 f2 f3) | (obtain ⟨⟨s0, s1, s2, s3⟩, f0, f1, f2, f3⟩ := box4 hx9; go_simp; replace hx9 := hx9.put4 (.int .i64 SS.g) (.int .i64 SS.f) (.int .i64 SS.l) (.int .i64 SS.m); replace hbk := below_put4 hbk hl9 (.int .i64 SS.g) (.int .i64 SS.f) (.int .i64 SS.l) (.int .i64 SS.m); clear s0 s1 s2 s3 f0 f1 f2 f3))
              refine hK.out _ _ ?_ (fun hHeld => ?_)
              · (try dsimp only)
                exact hbk
              clear hK K
              try simp only [Act.put, List.setIfInBounds_toArray, List.set_cons_zero, List.set_cons_succ]
              refine wpAnyH_take (i := 12) (oi := { dst := some 10, op := Op.assign (Operand.tmp 69), type := 26, pos := "law.go:286", after := #[{ on := 9, ground := Ground.data }, { on := 11, ground := Ground.chain }, { on := 0, ground := Ground.phase }, { on := 1, ground := Ground.phase }, { on := 2, ground := Ground.phase }, { on := 3, ground := Ground.phase }, { on := 4, ground := Ground.phase }, { on := 5, ground := Ground.phase }, { on := 6, ground := Ground.phase }, { on := 7, ground := Ground.phase }, { on := 8, ground := Ground.phase }, { on := 9, ground := Ground.phase }, { on := 10, ground := Ground.phase }, { on := 11, ground := Ground.phase }], guard := none }) (v := ?_) rfl (by kernel_rfl) (by kernel_rfl) (by kernel_rfl) (fun _ _ _ h => h) (Or.inl ⟨by rfl, ?_⟩) (by assumption) ?_
              rotate_left
              · (intro w hSw; (try dsimp only at hSw); go_simp); all_goals (with_reducible rfl)
              try simp only [Act.put, List.setIfInBounds_toArray, List.set_cons_zero, List.set_cons_succ]
              refine wpAnyH_done (by kernel_rfl) ?_ _
              go_wp2_with fail
              go_meet
              exact ⟨_, rfl, rfl, hl9, hx9, hbk⟩
            exact AllReadyH.nil
          exact AllReadyH.nil
        exact AllReadyH.nil
      refine AllReadyH.cons (o := { dst := some 9, op := Op.alloc 73, type := 0, pos := "law.go:286", after := #[], guard := none }) rfl (fun K hK => ?_) ?_
      · -- alloc
        (go_simp; first | (have hh := hcalled; have hx9 := newAt9 hbk #[.int .i64 SS.g, .int .i64 SS.f, .int .i64 SS.l, .int .i64 SS.m] 73; have hl9 := hbk.size; have hbk2 := hbk.alloc hbk.size (.cells #[.int .i64 SS.g, .int .i64 SS.f, .int .i64 SS.l, .int .i64 SS.m] 73); have hx0 := newAt9 hbk #[.int .i64 0, .int .i64 0, .int .i64 0, .int .i64 0] 73; replace hbk := hbk.alloc hbk.size (.cells #[.int .i64 0, .int .i64 0, .int .i64 0, .int .i64 0] 73)) | (have hx9 : At (W4.drew.alloc (.cells #[.int .i64 0, .int .i64 0, .int .i64 0, .int .i64 0] 73)) W4.heap.size #[.int .i64 0, .int .i64 0, .int .i64 0, .int .i64 0] 73 := at_new _ _ _; have hl9 : W4.heap.size ≤ W4.heap.size := Nat.le_refl _; replace hbk : Below W4.heap.size W4 (W4.drew.alloc (.cells #[.int .i64 0, .int .i64 0, .int .i64 0, .int .i64 0] 73)) := hbk.alloc hbk.size (.cells #[.int .i64 0, .int .i64 0, .int .i64 0, .int .i64 0] 73)) | (have hx9 := newAt9 hbk #[.int .i64 0, .int .i64 0, .int .i64 0, .int .i64 0] 73; have hl9 := hbk.size; (try replace h18 := h18.below ((Below.refl _ _).alloc (Nat.le_refl _) (.cells #[.int .i64 0, .int .i64 0, .int .i64 0, .int .i64 0] 73))); replace hbk := hbk.alloc hbk.size (.cells #[.int .i64 0, .int .i64 0, .int .i64 0, .int .i64 0] 73)))
        refine hK.out _ _ ?_ (fun hHeld => ?_)
        · (try dsimp only)
          exact hbk
        clear hK K
        try simp only [Act.put, List.setIfInBounds_toArray, List.set_cons_zero, List.set_cons_succ]
        refine wpAnyH_ready (rs := [1]) (by kernel_rfl) (by simp) ?_
        refine AllReadyH.cons (o := _) rfl (fun K hK => ?_) ?_
        · -- 18
          (go_simp; refine Calls.mono (c18 _ (hb.trans (hbk.mono hb.size))) ?_; rintro e W ⟨⟨u, rfl, hu⟩, hk⟩; have h18 := hu.is; clear hu; replace hbk := hbk.trans (hk.mono hbk.size); (try replace hx9 := hx9.below hk hx9.lt); clear hk)
          refine hK.out _ _ ?_ (fun hHeld => ?_)
          · (try dsimp only)
            exact hbk
          clear hK K
          try simp only [Act.put, List.setIfInBounds_toArray, List.set_cons_zero, List.set_cons_succ]
          refine wpAnyH_ready (rs := [6]) (by kernel_rfl) (by simp) ?_
          refine AllReadyH.cons (o := _) rfl (fun K hK => ?_) ?_
          · -- 46
            (go_simp; refine Calls.mono (c46 _ _ (hb.trans (hbk.mono hb.size)) h18) ?_; rintro e W ⟨rfl, hk⟩; clear h18; replace hbk := hbk.trans (hk.mono hbk.size); (try replace hx9 := hx9.below hk hx9.lt); have hcalled := True.intro; clear hk)
            refine hK.out _ _ ?_ (fun hHeld => ?_)
            · (try dsimp only)
              exact hbk
            clear hK K
            try simp only [Act.put, List.setIfInBounds_toArray, List.set_cons_zero, List.set_cons_succ]
            refine wpAnyH_take (i := 7) (oi := { dst := some 60, op := Op.move (Operand.tmp 67), type := 74, pos := "law.go:286", after := #[{ on := 6, ground := Ground.data }], guard := none }) (v := ?_) rfl (by kernel_rfl) (by kernel_rfl) (by kernel_rfl) (fun _ _ _ h => h) (Or.inl ⟨by rfl, ?_⟩) (by assumption) ?_
            rotate_left
            · (intro w hSw; (try dsimp only at hSw); go_simp); all_goals (with_reducible rfl)
            try simp only [Act.put, List.setIfInBounds_toArray, List.set_cons_zero, List.set_cons_succ]
            refine wpAnyH_take (i := 8) (oi := { dst := some 68, op := Op.extract (Operand.tmp 60) 0, type := 73, pos := "law.go:286", after := #[{ on := 7, ground := Ground.data }], guard := none }) (v := ?_) rfl (by kernel_rfl) (by kernel_rfl) (by kernel_rfl) (fun _ _ _ h => h) (Or.inl ⟨by rfl, ?_⟩) (by assumption) ?_
            rotate_left
            · (intro w hSw; (try dsimp only at hSw); go_simp); all_goals (with_reducible rfl)
            try simp only [Act.put, List.setIfInBounds_toArray, List.set_cons_zero, List.set_cons_succ]
            refine wpAnyH_take (i := 9) (oi := { dst := some 69, op := Op.extract (Operand.tmp 60) 1, type := 26, pos := "law.go:286", after := #[{ on := 7, ground := Ground.data }, { on := 11, ground := Ground.gcOnly Departure.lateStores }], guard := none }) (v := ?_) rfl (by kernel_rfl) (by kernel_rfl) (by kernel_rfl) (fun _ _ _ h => h) (Or.inl ⟨by rfl, ?_⟩) (by assumption) ?_
            rotate_left
            · (intro w hSw; (try dsimp only at hSw); go_simp); all_goals (with_reducible rfl)
            try simp only [Act.put, List.setIfInBounds_toArray, List.set_cons_zero, List.set_cons_succ]
            refine wpAnyH_ready (rs := [11]) (by kernel_rfl) (by simp) ?_
            refine AllReadyH.cons (o := { dst := none, op := Op.store 73 (Operand.tmp 9) (Operand.tmp 68), type := 0, pos := "law.go:286", after := #[{ on := 10, ground := Ground.data }, { on := 8, ground := Ground.data }, { on := 6, ground := Ground.chain }, { on := 0, ground := Ground.phase }, { on := 1, ground := Ground.phase }, { on := 2, ground := Ground.phase }, { on := 3, ground := Ground.phase }, { on := 4, ground := Ground.phase }, { on := 5, ground := Ground.phase }, { on := 6, ground := Ground.phase }, { on := 7, ground := Ground.phase }, { on := 8, ground := Ground.phase }, { on := 9, ground := Ground.textOnly Departure.lateStores }, { on := 10, ground := Ground.phase }], guard := none }) rfl (fun K hK => ?_) ?_
            · -- store
              (first | (obtain ⟨⟨s0, s1, s2, s3⟩, f0, f1, f2, f3⟩ := box4 hx0; go_simp; replace hbk := hbk2; clear s0 s1 s2 s3 f0 f1 f2 f3) | (obtain ⟨⟨s0, s1, s2, s3⟩, f0, f1, f2, f3⟩ := box4 hx9; go_simp; replace hx9 := hx9.put4 (.int .i64 SS.g) (.int .i64 SS.f) (.int .i64 SS.l) (.int .i64 SS.m); replace hbk := below_put4 hbk hl9 (.int .i64 SS.g) (.int .i64 SS.f) (.int .i64 SS.l) (.int .i64 SS.m); clear s0 s1 s2 s3 f0 f1 f2 f3))
              refine hK.out _ _ ?_ (fun hHeld => ?_)
              · (try dsimp only)
                exact hbk
              clear hK K
              try simp only [Act.put, List.setIfInBounds_toArray, List.set_cons_zero, List.set_cons_succ]
              refine wpAnyH_take (i := 12) (oi := { dst := some 10, op := Op.assign (Operand.tmp 69), type := 26, pos := "law.go:286", after := #[{ on := 9, ground := Ground.data }, { on := 11, ground := Ground.chain }, { on := 0, ground := Ground.phase }, { on := 1, ground := Ground.phase }, { on := 2, ground := Ground.phase }, { on := 3, ground := Ground.phase }, { on := 4, ground := Ground.phase }, { on := 5, ground := Ground.phase }, { on := 6, ground := Ground.phase }, { on := 7, ground := Ground.phase }, { on := 8, ground := Ground.phase }, { on := 9, ground := Ground.phase }, { on := 10, ground := Ground.phase }, { on := 11, ground := Ground.phase }], guard := none }) (v := ?_) rfl (by kernel_rfl) (by kernel_rfl) (by kernel_rfl) (fun _ _ _ h => h) (Or.inl ⟨by rfl, ?_⟩) (by assumption) ?_
              rotate_left
              · (intro w hSw; (try dsimp only at hSw); go_simp); all_goals (with_reducible rfl)
              try simp only [Act.put, List.setIfInBounds_toArray, List.set_cons_zero, List.set_cons_succ]
              refine wpAnyH_done (by kernel_rfl) ?_ _
              go_wp2_with fail
              go_meet
              exact ⟨_, rfl, rfl, hl9, hx9, hbk⟩
            exact AllReadyH.nil
          exact AllReadyH.nil
        exact AllReadyH.nil
      exact AllReadyH.nil
    case rest =>
    obtain ⟨b9, rfl, rfl, hb9, hx9, hbR⟩ := hcut
    have hbF := hb.trans (hbR.mono hb.size)
    have hx4 := hx4.below hbR hx4.lt
    have hx5 := hx5.below hbR hx5.lt
    have HA7 : Hid (StdAns wc w.heap.size u7 g n) := Lib.hid (HA7.out.below hbR)
    generalize wc = W5 at hx4 hx5 hx9 hbF HA7 ⊢
    clear hb hbk hbR c18 c46
    obtain ⟨⟨e0, e1, e2, e3, e4, e5, e6, e7, e8, e9, e10, e11⟩, -⟩ := box12 hx5
    go_wp2_with fail
    clear e0 e1 e2 e3 e4 e5 e6 e7 e8 e9 e10 e11
    go_at_call 47
    refine (c47 _).mono ?_
    rintro e W6 ⟨rfl, hk⟩
    have hb6 := hbF.trans (hk.mono hbF.size)
    have hx4 := hx4.below hk hx4.lt
    have hx5 := hx5.below hk hx5.lt
    have hx9 := hx9.below hk hx9.lt
    have HA7 : Hid (StdAns W6 w.heap.size u7 g n) := Lib.hid (HA7.out.below hk)
    clear c47 hk hbF
    go_wp2_with fail
    go_at_call 21
    refine (c21 _ hb6).mono ?_
    rintro e W7 ⟨rfl, hk⟩
    have hb := hb6.trans (hk.mono hb6.size)
    have hx4 := hx4.below hk hx4.lt
    have hx5 := hx5.below hk hx5.lt
    have hx9 := hx9.below hk hx9.lt
    have HA7 : Hid (StdAns W7 w.heap.size u7 g n) := Lib.hid (HA7.out.below hk)
    clear c21 hk hb6
    have c48 := nameE_w n0
    have c32 := fun W => kindR_w n1 W
    have c49x := fun W => check49_w x W
    have c49y := fun W => check49_w y W
    obtain ⟨en, hen⟩ : ∃ z, nmE n0 = z := ⟨_, rfl⟩
    obtain ⟨ek, hek⟩ : ∃ z, kindE n1 = z := ⟨_, rfl⟩
    obtain ⟨cx, hcx⟩ : ∃ z, chkS x = z := ⟨_, rfl⟩
    obtain ⟨cy, hcy⟩ : ∃ z, chkS y = z := ⟨_, rfl⟩
    have hF2 : fstE [E, en, ek] = E2 := by rw [← HE.out.2.1, siE, HE.out.1, hen, hek]
    have hF3 : fstE [cx, cy] = E3 := by rw [← HE.out.2.2.2.1, behE, hcx, hcy]
    have HF := Lib.hid (And.intro hF2 (And.intro hF3 hek))
    rw [hen] at c48
    simp only [hek] at c32
    simp only [hcx] at c49x
    simp only [hcy] at c49y
    have cF2 := threeR_w E en ek
    have cF3 := twoR_w cx cy
    rw [hF2] at cF2
    rw [hF3] at cF3
    have hdr : Below W7.heap.size W7 W7.drew := (Below.refl _ _).drew
    clear hen hek hcx hcy hF2 hF3
    go_wp2_with fail
    go_cut [14] (fun s14 wx => s14 = .int .i64 E2 ∧ Below W7.heap.size W7 wx)
    case first =>
      refine wp_region_quiet_to (C := (fun W => Below W7.heap.size W7 W)) 7 3 #[true, true, true, true, true, true, true, false, false, false] (by kernel_rfl) (by kernel_rfl) ?_ ?_
      · (try dsimp only)
        exact hdr
      simp only [List.take_succ_cons, List.take_zero]
      with_reducible refine quiet_take (v := ?_) ?_ ?_ ?_
      rotate_left
      · rfl
      · (intro w hSw; (try dsimp only at hSw); go_simp); all_goals (with_reducible rfl)
      try simp only [Act.put, List.setIfInBounds_toArray, List.set_cons_zero, List.set_cons_succ]
      with_reducible refine quiet_take (v := ?_) ?_ ?_ ?_
      rotate_left
      · rfl
      · (intro w hSw; (try dsimp only at hSw); go_simp); all_goals (with_reducible rfl)
      try simp only [Act.put, List.setIfInBounds_toArray, List.set_cons_zero, List.set_cons_succ]
      with_reducible refine quiet_take (v := ?_) ?_ ?_ ?_
      rotate_left
      · rfl
      · (intro w hSw; obtain ⟨a0, a1⟩ := box2 (hx4.below hSw hx4.lt); (try dsimp only at hSw); go_simp); all_goals (with_reducible rfl)
      try simp only [Act.put, List.setIfInBounds_toArray, List.set_cons_zero, List.set_cons_succ]
      with_reducible refine quiet_call (f := 48) (args := ?_) (v := .int .i64 en) ?_ ?_ ?_ ?_
      rotate_left
      · rfl
      · (intro w hSw; (try dsimp only at hSw); go_simp); all_goals (with_reducible rfl)
      · (intro W hSw); exact (c48 W).mono fun e w' ⟨h1, h2⟩ => ⟨h1, by rw [h2]; exact hSw⟩
      try simp only [Act.put, List.setIfInBounds_toArray, List.set_cons_zero, List.set_cons_succ]
      with_reducible refine quiet_take (v := ?_) ?_ ?_ ?_
      rotate_left
      · rfl
      · (intro w hSw; (try dsimp only at hSw); go_simp); all_goals (with_reducible rfl)
      try simp only [Act.put, List.setIfInBounds_toArray, List.set_cons_zero, List.set_cons_succ]
      with_reducible refine quiet_take (v := ?_) ?_ ?_ ?_
      rotate_left
      · rfl
      · (intro w hSw; obtain ⟨a0, a1⟩ := box2 (hx4.below hSw hx4.lt); (try dsimp only at hSw); go_simp); all_goals (with_reducible rfl)
      try simp only [Act.put, List.setIfInBounds_toArray, List.set_cons_zero, List.set_cons_succ]
      with_reducible refine quiet_call (f := 32) (args := ?_) (v := .int .i64 ek) ?_ ?_ ?_ ?_
      rotate_left
      · rfl
      · (intro w hSw; (try dsimp only at hSw); go_simp); all_goals (with_reducible rfl)
      · (intro W hSw); exact (c32 W).mono fun e w' ⟨h1, h2⟩ => ⟨h1, hSw.trans (h2.mono hSw.size)⟩
      try simp only [Act.put, List.setIfInBounds_toArray, List.set_cons_zero, List.set_cons_succ]
      refine wpQuiet_nil ?_
      intro W hSw
      refine wpAny_of_held (S := fun _ => True) _ _ _ _ ?_
      refine wpAnyH_ready (rs := [7]) (by kernel_rfl) (by simp) ?_
      refine AllReadyH.cons (o := _) rfl (fun K hK => ?_) ?_
      · -- buildSlice
        go_simp
        refine hK.out _ _ trivial (fun _ => ?_)
        clear hK K
        try simp only [List.setIfInBounds_toArray, List.set_cons_zero, List.set_cons_succ]
        refine wpAnyH_ready (rs := [8]) (by kernel_rfl) (by simp) ?_
        refine AllReadyH.cons (o := _) rfl (fun K hK => ?_) ?_
        · -- 22
          go_simp
          refine (cF2 _ _ (by simp) (by simp) (by simp)).mono ?_; rintro e w' ⟨rfl, rfl⟩
          refine hK.out _ _ trivial (fun _ => ?_)
          clear hK K
          try simp only [List.setIfInBounds_toArray, List.set_cons_zero, List.set_cons_succ]
          refine wpAnyH_ready (rs := [9]) (by kernel_rfl) (by simp) ?_
          refine AllReadyH.cons (o := _) rfl (fun K hK => ?_) ?_
          · -- assign
            go_simp
            refine hK.out _ _ trivial (fun _ => ?_)
            clear hK K
            try simp only [List.setIfInBounds_toArray, List.set_cons_zero, List.set_cons_succ]
            refine wpAnyH_done (by kernel_rfl) ?_ _
            have hb9z := hSw.alloc hSw.size (.cells #[.int .i64 E, .int .i64 en, .int .i64 ek] 3)
            go_wp2_with fail
            go_meet
            exact ⟨rfl, hb9z⟩
          exact AllReadyH.nil
        exact AllReadyH.nil
      exact AllReadyH.nil
    case rest =>
    obtain ⟨rfl, hbR⟩ := hcut
    have hb := hb.trans (hbR.mono hb.size)
    have hx4 := hx4.below hbR hx4.lt
    have hx5 := hx5.below hbR hx5.lt
    have hx9 := hx9.below hbR hx9.lt
    have HA7 : Hid (StdAns wc w.heap.size u7 g n) := Lib.hid (HA7.out.below hbR)
    generalize wc = W8 at hx4 hx5 hx9 hb HA7 ⊢
    clear hbR hdr c48 c32 cF2
    have hdr : Below W8.heap.size W8 W8.drew := (Below.refl _ _).drew
    go_wp2_with fail
    go_cut [15] (fun s15 wx => s15 = .int .i64 E3 ∧ Below W8.heap.size W8 wx)
    case first =>
      refine wp_region_quiet_to (C := (fun W => Below W8.heap.size W8 W)) 6 3 #[true, true, true, true, true, true, false, false, false] (by kernel_rfl) (by kernel_rfl) ?_ ?_
      · (try dsimp only)
        exact hdr
      simp only [List.take_succ_cons, List.take_zero]
      with_reducible refine quiet_take (v := ?_) ?_ ?_ ?_
      rotate_left
      · rfl
      · (intro w hSw; (try dsimp only at hSw); go_simp); all_goals (with_reducible rfl)
      try simp only [Act.put, List.setIfInBounds_toArray, List.set_cons_zero, List.set_cons_succ]
      with_reducible refine quiet_take (v := ?_) ?_ ?_ ?_
      rotate_left
      · rfl
      · (intro w hSw; obtain ⟨⟨e0, e1, e2, e3, e4, e5, e6, e7, e8, e9, e10, e11⟩, -⟩ := box12 (hx5.below hSw hx5.lt); (try dsimp only at hSw); go_simp); all_goals (with_reducible rfl)
      try simp only [Act.put, List.setIfInBounds_toArray, List.set_cons_zero, List.set_cons_succ]
      with_reducible refine quiet_call (f := 49) (args := ?_) (v := .int .i64 cx) ?_ ?_ ?_ ?_
      rotate_left
      · rfl
      · (intro w hSw; (try dsimp only at hSw); go_simp); all_goals (with_reducible rfl)
      · (intro W hSw); exact (c49x W).mono fun e w' ⟨h1, h2⟩ => ⟨h1, hSw.trans (h2.mono hSw.size)⟩
      try simp only [Act.put, List.setIfInBounds_toArray, List.set_cons_zero, List.set_cons_succ]
      with_reducible refine quiet_take (v := ?_) ?_ ?_ ?_
      rotate_left
      · rfl
      · (intro w hSw; (try dsimp only at hSw); go_simp); all_goals (with_reducible rfl)
      try simp only [Act.put, List.setIfInBounds_toArray, List.set_cons_zero, List.set_cons_succ]
      with_reducible refine quiet_take (v := ?_) ?_ ?_ ?_
      rotate_left
      · rfl
      · (intro w hSw; obtain ⟨⟨e0, e1, e2, e3, e4, e5, e6, e7, e8, e9, e10, e11⟩, -⟩ := box12 (hx5.below hSw hx5.lt); (try dsimp only at hSw); go_simp); all_goals (with_reducible rfl)
      try simp only [Act.put, List.setIfInBounds_toArray, List.set_cons_zero, List.set_cons_succ]
      with_reducible refine quiet_call (f := 49) (args := ?_) (v := .int .i64 cy) ?_ ?_ ?_ ?_
      rotate_left
      · rfl
      · (intro w hSw; (try dsimp only at hSw); go_simp); all_goals (with_reducible rfl)
      · (intro W hSw); exact (c49y W).mono fun e w' ⟨h1, h2⟩ => ⟨h1, hSw.trans (h2.mono hSw.size)⟩
      try simp only [Act.put, List.setIfInBounds_toArray, List.set_cons_zero, List.set_cons_succ]
      refine wpQuiet_nil ?_
      intro W hSw
      refine wpAny_of_held (S := fun _ => True) _ _ _ _ ?_
      refine wpAnyH_ready (rs := [6]) (by kernel_rfl) (by simp) ?_
      refine AllReadyH.cons (o := _) rfl (fun K hK => ?_) ?_
      · -- buildSlice
        go_simp
        refine hK.out _ _ trivial (fun _ => ?_)
        clear hK K
        try simp only [List.setIfInBounds_toArray, List.set_cons_zero, List.set_cons_succ]
        refine wpAnyH_ready (rs := [7]) (by kernel_rfl) (by simp) ?_
        refine AllReadyH.cons (o := _) rfl (fun K hK => ?_) ?_
        · -- 22
          go_simp
          refine (cF3 _ _ (by simp) (by simp)).mono ?_; rintro e w' ⟨rfl, rfl⟩
          refine hK.out _ _ trivial (fun _ => ?_)
          clear hK K
          try simp only [List.setIfInBounds_toArray, List.set_cons_zero, List.set_cons_succ]
          refine wpAnyH_ready (rs := [8]) (by kernel_rfl) (by simp) ?_
          refine AllReadyH.cons (o := _) rfl (fun K hK => ?_) ?_
          · -- assign
            go_simp
            refine hK.out _ _ trivial (fun _ => ?_)
            clear hK K
            try simp only [List.setIfInBounds_toArray, List.set_cons_zero, List.set_cons_succ]
            refine wpAnyH_done (by kernel_rfl) ?_ _
            have hb9z := hSw.alloc hSw.size (.cells #[.int .i64 cx, .int .i64 cy] 3)
            go_wp2_with fail
            go_meet
            exact ⟨rfl, hb9z⟩
          exact AllReadyH.nil
        exact AllReadyH.nil
      exact AllReadyH.nil
    case rest =>
    obtain ⟨rfl, hbR⟩ := hcut
    have hb := hb.trans (hbR.mono hb.size)
    have hx4 := hx4.below hbR hx4.lt
    have hx5 := hx5.below hbR hx5.lt
    have hx9 := hx9.below hbR hx9.lt
    have HA7 : Hid (StdAns wc w.heap.size u7 g n) := Lib.hid (HA7.out.below hbR)
    generalize wc = W9 at hx4 hx5 hx9 hb HA7 ⊢
    clear hbR hdr c49x c49y cF3
    have h917 : b9 ≠ W9.heap.size := Nat.ne_of_lt hx9.lt
    have h517 : w.heap.size + 1 ≠ W9.heap.size := Nat.ne_of_lt hx5.lt
    have hal : Below W9.heap.size W9 (W9.alloc (.cells #[.int .i64 0, .int .i64 0, .int .i64 0, .int .i64 0] 72)) := (Below.refl _ _).alloc (Nat.le_refl _) _
    have hx17 := at_new W9 #[.int .i64 0, .int .i64 0, .int .i64 0, .int .i64 0] 72
    have hx4 := hx4.below hal hx4.lt
    have hx5 := hx5.below hal hx5.lt
    have hx9 := hx9.below hal hx9.lt
    have HA7 : Hid (StdAns (W9.alloc (.cells #[.int .i64 0, .int .i64 0, .int .i64 0, .int .i64 0] 72)) w.heap.size u7 g n) := Lib.hid (HA7.out.below hal)
    have hb17 : w.heap.size ≤ W9.heap.size := hb.size
    have hb := hb.trans (hal.mono hb.size)
    obtain ⟨W10, hW10⟩ : ∃ W10, W9.alloc (.cells #[.int .i64 0, .int .i64 0, .int .i64 0, .int .i64 0] 72) = W10 := ⟨_, rfl⟩
    rw [hW10] at hx4 hx5 hx9 hx17 hb HA7
    clear hal
    go_upto_if 98 with fail
    try rw [hW10]
    clear hW10
    generalize W9.heap.size = b17 at hx17 h917 h517 hb17 ⊢
    go_cut [16, 98] from 99 to 100 (fun s16 s98 wx => Hid (WantS wx w.heap.size s16 E g n) ∧ Below W10.heap.size W10 wx)
    case first =>
      by_cases hE0 : E = 0
      · have hq : (E == 0) = true := by simpa using hE0
        have hok := bookE_ok (HE.out.1.trans hE0)
        have c50 := standingsR_w (HV.out.2.below hb) HK.out.1 (fun i hi => (gmE_head (hok.2 i hi)).2.2.2.2.2.2.1)
        have HE0 := Lib.hid hE0
        clear hok hE0
        go_wp2_with fail
        go_at_call 50
        refine c50.mono ?_
        rintro e Wn ⟨⟨u, rfl, S, hS, hr⟩, hk⟩
        have HW : Hid (WantS Wn w.heap.size u E g n) := Lib.hid ⟨fun _ => ⟨S, hS.out.1, hS.out.2, OwnRow.mono hr hb.size⟩, fun h => absurd HE0.out h⟩
        clear c50 hr
        go_wp2_with fail
        go_meet
        exact ⟨HW, hk⟩
      · have hq : (E == 0) = false := by simpa using hE0
        have HW : Hid (WantS W10 w.heap.size (.slice none 0 0) E g n) := Lib.hid ⟨fun h => absurd h hE0, fun _ => rfl⟩
        clear hE0
        have hrf := Below.refl W10.heap.size W10
        go_wp2_with fail
        go_meet
        exact ⟨HW, hrf⟩
    case rest =>
    obtain ⟨HW, hbR⟩ := hcut
    have hb := hb.trans (hbR.mono hb.size)
    have hx4 := hx4.below hbR hx4.lt
    have hx5 := hx5.below hbR hx5.lt
    have hx9 := hx9.below hbR hx9.lt
    have hx17 := hx17.below hbR hx17.lt
    have HA7 : Hid (StdAns wc w.heap.size u7 g n) := Lib.hid (HA7.out.below hbR)
    generalize wc = W11 at hx4 hx5 hx9 hx17 hb HA7 HW ⊢
    clear hbR
    go_upto_if 102 with fail
    go_cut [102] from 103 to 109 (fun s102 wx => At wx b17 #[.int .i64 SS.g, .int .i64 SS.f, .int .i64 SS.l, .int .i64 SS.m] 72 ∧ At wx b9 #[.int .i64 SS.g, .int .i64 SS.f, .int .i64 SS.l, .int .i64 SS.m] 73 ∧ At wx (w.heap.size + 1) #[.string (bA x.t), .int .i64 x.w, .int .i64 x.l, .int .i64 x.d, .int .i64 x.f, .int .i64 x.a, .string (bA y.t), .int .i64 y.w, .int .i64 y.l, .int .i64 y.d, .int .i64 y.f, .int .i64 y.a] 85 ∧ Hid (StdAns wx w.heap.size u7 g n) ∧ Hid (WantS wx w.heap.size u16 E g n) ∧ Below w.heap.size w wx)
    case first =>
      by_cases hE2 : E2 = 0
      · have hq : (E2 == 0) = true := by simpa using hE2
        obtain ⟨z1, z2, z3⟩ := fst3_nil (show fstE [E, en, ek] = 0 by rw [HF.out.1, hE2])
        obtain ⟨hkn, hk12⟩ := kdI_of (HF.out.2.2.trans z3)
        have hSS : strk (gmB g n0 (kdI n1) n) = SS := by
          rw [← HE.out.2.2.1, siS, HE.out.2.1, if_pos hE2]
        have c34 := fun W => kindAt_w n1 W
        have c51 : ∀ W, Below W11.heap.size W11 W → Calls prog 51 _ W _ := fun W h => streakInR_w (HV.out.2.below (hb.trans (h.mono hb.size))) HK.out.1 (fun i hi => (HK.out.2 i hi).1) n0 hk12
        simp only [hkn] at c34
        rw [hSS] at c51
        unfold Skk.arr at c51
        obtain ⟨kd, hkd⟩ : ∃ k, kdI n1 = k := ⟨_, rfl⟩
        simp only [hkd] at c34 c51
        have hdr : Below W11.heap.size W11 W11.drew := (Below.refl _ _).drew
        have HFN : Hid (∀ W, Below W11.heap.size W11 W → At W b17 #[.int .i64 0, .int .i64 0, .int .i64 0, .int .i64 0] 72 ∧ (At (put4 W b17 (.int .i64 SS.g) (.int .i64 SS.f) (.int .i64 SS.l) (.int .i64 SS.m)) b17 #[.int .i64 SS.g, .int .i64 SS.f, .int .i64 SS.l, .int .i64 SS.m] 72 ∧ At (put4 W b17 (.int .i64 SS.g) (.int .i64 SS.f) (.int .i64 SS.l) (.int .i64 SS.m)) b9 #[.int .i64 SS.g, .int .i64 SS.f, .int .i64 SS.l, .int .i64 SS.m] 73 ∧ At (put4 W b17 (.int .i64 SS.g) (.int .i64 SS.f) (.int .i64 SS.l) (.int .i64 SS.m)) (w.heap.size + 1) #[.string (bA x.t), .int .i64 x.w, .int .i64 x.l, .int .i64 x.d, .int .i64 x.f, .int .i64 x.a, .string (bA y.t), .int .i64 y.w, .int .i64 y.l, .int .i64 y.d, .int .i64 y.f, .int .i64 y.a] 85 ∧ StdAns (put4 W b17 (.int .i64 SS.g) (.int .i64 SS.f) (.int .i64 SS.l) (.int .i64 SS.m)) w.heap.size u7 g n ∧ WantS (put4 W b17 (.int .i64 SS.g) (.int .i64 SS.f) (.int .i64 SS.l) (.int .i64 SS.m)) w.heap.size u16 E g n ∧ Below w.heap.size w (put4 W b17 (.int .i64 SS.g) (.int .i64 SS.f) (.int .i64 SS.l) (.int .i64 SS.m)))) := Lib.hid fun W h => by
          have k17 := hx17.below h hx17.lt
          exact ⟨k17, k17.put4 _ _ _ _, (hx9.below h hx9.lt).put4o h917 _ _ _ _, (hx5.below h hx5.lt).put4o h517 _ _ _ _, (HA7.out.below h).put4 k17, (HW.out.below h).put4 k17, below_put4 (hb.trans (h.mono hb.size)) hb17 _ _ _ _⟩
        clear z1 z2 z3 hkn hk12 hSS hkd hE2 hx9 hx17 hx5 HA7 HW hb
        go_wp2_with fail
        refine wp_region_quiet_to (C := (fun W => Below W11.heap.size W11 W)) 6 2 #[true, true, true, true, true, true, false, false] (by kernel_rfl) (by kernel_rfl) ?_ ?_
        · (try dsimp only)
          exact hdr
        simp only [List.take_succ_cons, List.take_zero]
        with_reducible refine quiet_take (v := ?_) ?_ ?_ ?_
        rotate_left
        · rfl
        · (intro w hSw; (try dsimp only at hSw); go_simp); all_goals (with_reducible rfl)
        try simp only [Act.put, List.setIfInBounds_toArray, List.set_cons_zero, List.set_cons_succ]
        with_reducible refine quiet_take (v := ?_) ?_ ?_ ?_
        rotate_left
        · rfl
        · (intro w hSw; (try dsimp only at hSw); go_simp); all_goals (with_reducible rfl)
        try simp only [Act.put, List.setIfInBounds_toArray, List.set_cons_zero, List.set_cons_succ]
        with_reducible refine quiet_take (v := ?_) ?_ ?_ ?_
        rotate_left
        · rfl
        · (intro w hSw; obtain ⟨a0, a1⟩ := box2 (hx4.below hSw hx4.lt); (try dsimp only at hSw); go_simp); all_goals (with_reducible rfl)
        try simp only [Act.put, List.setIfInBounds_toArray, List.set_cons_zero, List.set_cons_succ]
        with_reducible refine quiet_take (v := ?_) ?_ ?_ ?_
        rotate_left
        · rfl
        · (intro w hSw; (try dsimp only at hSw); go_simp); all_goals (with_reducible rfl)
        try simp only [Act.put, List.setIfInBounds_toArray, List.set_cons_zero, List.set_cons_succ]
        with_reducible refine quiet_take (v := ?_) ?_ ?_ ?_
        rotate_left
        · rfl
        · (intro w hSw; obtain ⟨a0, a1⟩ := box2 (hx4.below hSw hx4.lt); (try dsimp only at hSw); go_simp); all_goals (with_reducible rfl)
        try simp only [Act.put, List.setIfInBounds_toArray, List.set_cons_zero, List.set_cons_succ]
        with_reducible refine quiet_call (f := 34) (args := ?_) (v := .int .i64 kd) ?_ ?_ ?_ ?_
        rotate_left
        · rfl
        · (intro w hSw; (try dsimp only at hSw); go_simp); all_goals (with_reducible rfl)
        · (intro W hSw); exact (c34 W).mono fun e w' ⟨h1, h2⟩ => ⟨h1, hSw.trans (h2.mono hSw.size)⟩
        try simp only [Act.put, List.setIfInBounds_toArray, List.set_cons_zero, List.set_cons_succ]
        refine wpQuiet_nil ?_
        intro W hSw
        refine wpAny_of_held (S := fun _ => True) _ _ _ _ ?_
        refine wpAnyH_ready (rs := [6]) (by kernel_rfl) (by simp) ?_
        refine AllReadyH.cons (o := _) rfl (fun K hK => ?_) ?_
        · -- 51
          go_simp
          refine (c51 _ hSw).mono ?_; rintro e w' ⟨rfl, hk⟩; obtain ⟨k17, m1, m2, m3, m4, m5, m6⟩ := HFN.out _ (hSw.trans (hk.mono hSw.size)); have M4 := Lib.hid m4; have M5 := Lib.hid m5; have MM := Lib.hid (And.intro m1 (And.intro m2 (And.intro m3 m6))); obtain ⟨⟨s0, s1, s2, s3⟩, f0, f1, f2, f3⟩ := box4 k17; clear m1 m2 m3 m4 m5 m6 k17
          refine hK.out _ _ trivial (fun _ => ?_)
          clear hK K
          try simp only [List.setIfInBounds_toArray, List.set_cons_zero, List.set_cons_succ]
          refine wpAnyH_ready (rs := [7]) (by kernel_rfl) (by simp) ?_
          refine AllReadyH.cons (o := _) rfl (fun K hK => ?_) ?_
          · -- store
            go_simp
            refine hK.out _ _ trivial (fun _ => ?_)
            clear hK K
            try simp only [List.setIfInBounds_toArray, List.set_cons_zero, List.set_cons_succ]
            refine wpAnyH_done (by kernel_rfl) ?_ _
            go_wp2_with fail
            go_meet
            exact ⟨MM.out.1, MM.out.2.1, MM.out.2.2.1, M4, M5, MM.out.2.2.2⟩
          exact AllReadyH.nil
        exact AllReadyH.nil
      · have hq : (E2 == 0) = false := by simpa using hE2
        have hSS : SS = ⟨0, 0, 0, 0⟩ := by rw [← HE.out.2.2.1, siS, HE.out.2.1, if_neg hE2]
        have hxs : At W11 b17 #[.int .i64 SS.g, .int .i64 SS.f, .int .i64 SS.l, .int .i64 SS.m] 72 := by rw [hSS]; exact hx17
        clear hE2 hSS hx17
        go_wp2_with fail
        go_meet
        exact ⟨hxs, hx9, hx5, HA7, HW, hb⟩
    case rest =>
    clear hx5 hx17 hx9 hb HA7 HW hx4
    obtain ⟨hx17, hx9, hx5, HA7, HW, hb⟩ := hcut
    generalize wc = W12 at hx17 hx9 hx5 HA7 HW hb ⊢
    go_upto_if 111 with fail
    go_cut [18, 111] from 112 to 116 (fun s18 s111 wx => s18 = .int .i64 V3 ∧ Below W12.heap.size W12 wx)
    case first =>
      by_cases hE3 : E3 = 0
      · have hq : (E3 == 0) = true := by simpa using hE3
        have c52 := fun W => behindR_w (HE.out.2.2.2.1.trans hE3) W
        simp only [HE.out.2.2.2.2] at c52
        obtain ⟨⟨e0, e1, e2, e3, e4, e5, e6, e7, e8, e9, e10, e11⟩, -⟩ := box12 hx5
        clear hE3
        go_wp2_with fail
        go_at_call 52
        refine (c52 _).mono ?_
        rintro e Wn ⟨rfl, hk⟩
        clear c52
        go_wp2_with fail
        go_meet
        exact ⟨rfl, hk⟩
      · have hq : (E3 == 0) = false := by simpa using hE3
        have hV : V3 = 0 := by rw [← HE.out.2.2.2.2, behV, HE.out.2.2.2.1, if_neg hE3]
        have HV0 := Lib.hid hV
        have hrf := Below.refl W12.heap.size W12
        clear hE3 hV
        go_wp2_with fail
        go_meet
        exact ⟨by rw [HV0.out], hrf⟩
    case rest =>
    obtain ⟨rfl, hbR⟩ := hcut
    have hb := hb.trans (hbR.mono hb.size)
    have hx9 := hx9.below hbR hx9.lt
    have hx17 := hx17.below hbR hx17.lt
    have HA7 : Hid (StdAns wc w.heap.size u7 g n) := Lib.hid (HA7.out.below hbR)
    have HW : Hid (WantS wc w.heap.size u16 E g n) := Lib.hid (HW.out.below hbR)
    generalize wc = W13 at hx17 hx9 HA7 HW hb ⊢
    clear hbR hx5
    have hD : ∃ D : List Std, Row W13 u7 6 D.length (fun r => (D[r]?.getD (zeroS [])).cells) ∧ Row W13 u16 6 D.length (fun r => (D[r]?.getD (zeroS [])).cells) ∧ D.length ≤ 10000 := by
      by_cases hE0 : E = 0
      · obtain ⟨S1, p1, s1, r1⟩ := HA7.out.1 (HE.out.1.trans hE0)
        obtain ⟨S2, p2, s2, r2⟩ := HW.out.1 hE0
        have e := sortS_one (p1.trans p2.symm) s1 s2
        subst e
        refine ⟨S1, rowS r1, rowS r2, ?_⟩
        rw [p1.length_eq]
        have hok := bookE_ok (HE.out.1.trans hE0)
        exact Nat.le_trans (InvS.all (g := g) (n := n) fun i hi => (gmE_head (hok.2 i hi)).2.2.2.2.2.2.1).len (by omega)
      · refine ⟨[], ?_, ?_, Nat.zero_le _⟩
        · rw [HA7.out.2 (fun h => hE0 (HE.out.1.symm.trans h))]; exact Row.nil _ _ _
        · rw [HW.out.2 hE0]; exact Row.nil _ _ _
    obtain ⟨D, hr1, hr2, hDl⟩ := hD
    obtain ⟨M, hM⟩ : ∃ M, D.length = M := ⟨_, rfl⟩
    have HM := Lib.hid hM
    rw [hM] at hr1 hr2 hDl
    have HR := Lib.hid (And.intro hr1 hr2)
    obtain ⟨a5, c5, rfl, -⟩ := hr1.slice
    obtain ⟨a6, c6, rfl, -⟩ := hr2.slice
    have hxx : (E != E) = false := by simp
    clear hr1 hr2 hM HA7 HW
    go_wp2_with fail
    go_loopw [129] (fun s wr => ∃ j : Nat, j ≤ M ∧ s = .int .i64 j ∧ Below W13.heap.size W13 wr) (fun s _ => M - (numOf' s).toNat)
    case atStart => exact ⟨0, Nat.zero_le _, rfl, Below.refl _ _⟩
    case round =>
      obtain ⟨j, hj, rfl, hbl⟩ := hrel
      by_cases hjM : j < M
      · obtain ⟨z, hz⟩ : ∃ z, D[j]? = some z := ⟨_, List.getElem?_eq_getElem (by rw [HM.out]; exact hjM)⟩
        obtain ⟨sb, so, sk, es, -, p0⟩ := (Row.below HR.out.1 hbl).at hjM
        obtain ⟨tb, to', tk, et, -, q0⟩ := (Row.below HR.out.2 hbl).at hjM
        simp only [Value.slice.injEq, true_and] at es et
        obtain ⟨rfl, rfl⟩ := es
        obtain ⟨rfl, rfl⟩ := et
        simp only [hz, Option.getD_some] at p0 q0
        have g0 := p0 0 _ rfl
        have g1 := p0 1 _ rfl
        have g2 := p0 2 _ rfl
        have g3 := p0 3 _ rfl
        have g4 := p0 4 _ rfl
        have g5 := p0 5 _ rfl
        have k0 := q0 0 _ rfl
        have k1 := q0 1 _ rfl
        have k2 := q0 2 _ rfl
        have k3 := q0 3 _ rfl
        have k4 := q0 4 _ rfl
        have k5 := q0 5 _ rfl
        rw [Nat.add_zero] at g0 k0
        have hjj : (j : Int) < (M : Int) := by omega
        have hne := neq_std z
        unfold Std.arr at hne
        clear p0 q0 hz
        go_wp2_with fail
        go_quiet (fail)
        have hbn := belowN hbl nq
        clear g0 g1 g2 g3 g4 g5 k0 k1 k2 k3 k4 k5 hne
        all_goals go_wp2_with fail
        go_roundw
        case rel => exact ⟨j + 1, by omega, by go_num, hbn⟩
        case measure => simp [numOf'] <;> omega
      · obtain rfl : j = M := by omega
        have hjj : ¬ (j : Int) < (j : Int) := by omega
        have hbz := hb.trans (hbl.mono hb.size)
        have hx9 := hx9.below hbl hx9.lt
        have hx17 := hx17.below hbl hx17.lt
        obtain ⟨⟨y0, y1, y2, y3⟩, -⟩ := box4 hx9
        obtain ⟨⟨z0, z1, z2, z3⟩, -⟩ := box4 hx17
        have he := eql_stk SS
        unfold Skk.arr at he
        clear hb hbl hjM
        go_wp2_with fail
        go_ret
        exact ⟨rfl, hbz⟩
end Go.Proofs.Tryz
