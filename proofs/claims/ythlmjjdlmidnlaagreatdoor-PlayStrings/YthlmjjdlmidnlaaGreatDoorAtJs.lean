/- Parse of the program: what a round over the words keeps. -/
import Derived.Test.YthlmjjdlmidnlaaGreatDoorAtHs
import Derived.Test.YthlmjjdlmidnlaaGreatDoorAtGs
import Derived.Test.YthlmjjdlmidnlaaGreatDoorAsAks
import Derived.RangeFuncFrom
namespace Go.Proofs.Tryz
open Go Go.Am Go.RowKit Go.Dr Go.Shelf
set_option maxRecDepth 100000

theorem words_w (l : List UInt8) (w : World) : Calls prog 85 #[.string (bA l)] w fun e w' => e = .returned (.func (.func 122) #[] #[.pointer (some ⟨w.heap.size, 0, none⟩)]) ∧ w' = w.alloc (.cells #[.string (bA l)] 9) := by
  go_enter func85, ntmps85
  go_wp2
  go_ret
  exact ⟨rfl, rfl⟩

/-! ### what stays -/
theorem Kp9.below {W W' : World} (h : Below W.heap.size W W') : Kp9 W W' := fun k _ _ hk => h.block k (Array.getElem?_eq_some_iff.1 hk).1
theorem Kp9.set {W : World} {b : Nat} {cs : Array Value} {e : TypeId} (h : At W b cs e) (he : e ≠ 9) (o : Nat) (v : Value) : Kp9 W (W.setCell ⟨b, o, none⟩ v) := fun k cs' fr hk => by
  refine Below.heap_setCell _ _ _ _ fun q => ?_
  obtain rfl : k = b := q
  unfold At at h
  rw [h] at hk
  simp only [Option.some.injEq, Obj.cells.injEq] at hk
  exact he hk.2.1
theorem Kp9.grown {W W' : World} {base k : Nat} {v : Value} {xs : List Value} (hg : W.grownBy W' v.ownBlock) (ho : W.ownsRow base 27 5 v k xs) : Kp9 W W' := fun i cs fr hi => by
  refine hg.block i (Array.getElem?_eq_some_iff.1 hi).1 fun e => ?_
  obtain ⟨cs', fz, hc⟩ := Lib.ownsRow_kind ho _ e.symm
  rw [hc] at hi
  simp at hi
theorem keeps_below {W W' : World} (h : Below W.heap.size W W') : KeepsOthers W W' := ⟨h.size, fun k _ hk _ => (h.block k (Array.getElem?_eq_some_iff.1 hk).1).trans hk⟩
theorem keeps_grown {W W' : World} {base k : Nat} {v : Value} {xs : List Value} (hg : W.grownBy W' v.ownBlock) (ho : W.ownsRow base 27 5 v k xs) : KeepsOthers W W' :=
  KeepsOthers.of_grownBy hg fun _ _ hj hk => by
    obtain ⟨cs', fz, hc⟩ := Lib.ownsRow_kind ho _ hj
    rw [hc] at hk
    cases hk
    rfl

/-- What speaks of cells abides a turn of what is none. -/
theorem At.abide {A B : World} {row : Option Nat} {b : Nat} {cs : Array Value} {e : TypeId} (h : At A b cs e) (hg : A.grownBy B row) (hr : ∀ r, row = some r → ∃ o : Obj, A.heap[r]? = some o ∧ o.isCells = false) : At B b cs e := by
  refine (hg.block b h.lt fun q => ?_).trans h
  obtain ⟨o, ho, hc⟩ := hr b q.symm
  unfold At at h
  rw [h] at ho
  cases ho
  cases hc
theorem owns_abide {A B : World} {row : Option Nat} {base n k : Nat} {e : TypeId} {v : Value} {xs : List Value} (h : A.ownsRow base e k v n xs) (hg : A.grownBy B row) (hr : ∀ r, row = some r → ∃ o : Obj, A.heap[r]? = some o ∧ o.isCells = false) : B.ownsRow base e k v n xs := by
  refine h.kept hg ?_
  cases hv : v.ownBlock with
  | none => exact .inl rfl
  | some r =>
    right
    intro q
    obtain ⟨cs', fz, hc⟩ := Lib.ownsRow_kind h _ hv
    obtain ⟨o, ho, hcc⟩ := hr r q.symm
    rw [hc] at ho
    cases ho
    cases hcc
theorem M5Own.abide {A B : World} {row : Option Nat} {base : Nat} {c : M5} {m : MvD} (h : M5Own A base c m) (hg : A.grownBy B row) (hr : ∀ r, row = some r → ∃ o : Obj, A.heap[r]? = some o ∧ o.isCells = false) : M5Own B base c m :=
  ⟨h.1, h.2.1, h.2.2.1, h.2.2.2.1, owns_abide h.2.2.2.2.1 hg hr, h.2.2.2.2.2⟩
theorem LsR.abide {A B : World} {row : Option Nat} {base : Nat} {L : List MvD} {v : Value} (h : LsR A base L v) (hg : A.grownBy B row) (hr : ∀ r, row = some r → ∃ o : Obj, A.heap[r]? = some o ∧ o.isCells = false) : LsR B base L v :=
  let ⟨lk, h1, h2⟩ := h
  ⟨lk, owns_abide h1 hg hr, h2.imp fun _ _ o => o.abide hg hr⟩

/-- The words that have come. -/
def wds (pre : List (Nat × List UInt8)) : List (List UInt8) := pre.map fun x => x.2.take 4096
theorem wds_snoc (pre : List (Nat × List UInt8)) (x : Nat × List UInt8) : wds (pre ++ [x]) = wds pre ++ [x.2.take 4096] := by simp [wds]
theorem wds_len (pre : List (Nat × List UInt8)) : (wds pre).length = pre.length := by simp [wds]
/-- What Parse's variables hold between two words. -/
def ParI (w : World) (bp bn bw base : Nat) (pre : List (Nat × List UInt8)) (W : World) : Prop :=
  (∃ P v, accW 0 p0St (wds pre) = some P ∧ At W bp #[.string (bA P.a), .string (bA P.e), .bool P.lx, v] 24 ∧ LsR W base P.L v ∧ P.L.length ≤ pre.length ∧
    At W bn #[.int .i64 ((pre.length : Nat) : Int)] 3 ∧ At W bw #[.int .i64 (-1)] 3 ∧ At W w.heap.size #[.string ⟨#[]⟩, .string ⟨#[]⟩, .bool false, .slice none 0 0] 24 ∧ base ≤ W.heap.size) ∧ Below w.heap.size w W
/-- .. and where a word is wrong. -/
def ParX (w : World) (bn bw : Nat) (c : Code) (pre : List (Nat × List UInt8)) (W : World) : Prop :=
  (c = .exit 0 ∧ ∃ pre0 x P, pre = pre0 ++ [x] ∧ accW 0 p0St (wds pre0) = some P ∧ stepW pre0.length (x.2.take 4096) P = none ∧
    At W bn #[.int .i64 ((pre0.length : Nat) : Int)] 3 ∧ At W bw #[.int .i64 ((x.1 : Nat) : Int)] 3 ∧ At W w.heap.size #[.string ⟨#[]⟩, .string ⟨#[]⟩, .bool false, .slice none 0 0] 24) ∧ Below w.heap.size w W
theorem parI_own (w : World) (bp bn bw base B : Nat) (hB : w.heap.size ≤ B) : OwnFrom B (ParI w bp bn bw base) :=
  OwnFrom.and (Own.from (fun s A B row hs hg hr => by
    obtain ⟨P, v, h1, h2, h3, h4, h5, h6, h7, h8⟩ := hs
    exact ⟨P, v, h1, h2.abide hg hr, h3.abide hg hr, h4, h5.abide hg hr, h6.abide hg hr, h7.abide hg hr, Nat.le_trans h8 hg.size⟩) _) (ownFrom_below (Nat.le_refl _) hB)
theorem parX_own (w : World) (bn bw B : Nat) (hB : w.heap.size ≤ B) (c : Code) : OwnFrom B (ParX w bn bw c) :=
  OwnFrom.and (Own.from (fun s A B row hs hg hr => by
    obtain ⟨h0, pre0, x, P, h1, h2, h3, h4, h5, h6⟩ := hs
    exact ⟨h0, pre0, x, P, h1, h2, h3, h4.abide hg hr, h5.abide hg hr, h6.abide hg hr⟩) _) (ownFrom_below (Nat.le_refl _) hB)
theorem withAt_snd : ∀ (k : Nat) (ws : List (List UInt8)), (withAt k ws).map Prod.snd = ws
  | _, [] => rfl
  | k, w :: r => by rw [withAt, List.map_cons, withAt_snd]
theorem wds_small {pre : List (Nat × List UInt8)} (h : ∀ x ∈ pre, x.2.length ≤ 4096) : wds pre = pre.map Prod.snd := by
  unfold wds
  apply List.map_congr_left
  intro x hx
  exact List.take_of_length_le (h x hx)
theorem spl_small {l : List UInt8} (hl : l.length ≤ 4096) : ∀ x ∈ spl 32 l, x.length ≤ 4096 := fun x hx => by
  obtain ⟨r, z, hrz⟩ := List.append_of_mem hx
  have := atW_spl l
  rw [hrz, atW_append, atW] at this
  omega
/-- The words up to a wrong one. -/
theorem withAt_parts {l : List UInt8} (hl : l.length ≤ 4096) {pre0 t : List (Nat × List UInt8)} {x : Nat × List UInt8} (h : pre0 ++ [x] ++ t = withAt 0 (spl 32 l)) :
    ∃ r z, spl 32 l = r ++ x.2 :: z ∧ wds pre0 = r ∧ x.1 = atW r ∧ pre0.length = r.length ∧ x.2.take 4096 = x.2 := by
  have hs := withAt_snd 0 (spl 32 l)
  rw [← h, List.map_append, List.map_append] at hs
  have hm : ∀ y ∈ pre0 ++ [x], y.2.length ≤ 4096 := fun y hy => spl_small hl y.2 (by
    rw [← hs, ← List.map_append]
    exact List.mem_append_left _ (List.mem_map.2 ⟨y, hy, rfl⟩))
  have hx := hm x (by simp)
  refine ⟨pre0.map Prod.snd, t.map Prod.snd, by rw [← hs]; simp, wds_small fun y hy => hm y (by simp [hy]), ?_, by simp, List.take_of_length_le hx⟩
  have hg := withAt_get 0 (spl 32 l) pre0.length x.2 (by rw [← hs]; simp)
  rw [← h] at hg
  have e : (pre0 ++ [x] ++ t)[pre0.length]? = some x := by simp
  rw [e, Nat.zero_add] at hg
  have := congrArg (Option.map Prod.fst) hg
  simp only [Option.map_some, Option.some.injEq] at this
  rw [this, ← hs]
  congr 1
  simp
theorem wds_all {l : List UInt8} (hl : l.length ≤ 4096) : wds (withAt 0 (spl 32 l)) = spl 32 l := by
  have hs := withAt_snd 0 (spl 32 l)
  rw [wds_small fun x hx => spl_small hl x.2 (by rw [← hs]; exact List.mem_map.2 ⟨x, hx, rfl⟩)]
  exact hs
theorem At.put {w : World} {b D : Nat} {cs : Array Value} {e : TypeId} (h : At w b cs e) (hD : b ≠ D) (o : Obj) : At (w.putObj D o) b cs e := (World.putObj_heap_other hD).trans h
/-- Four cells stored. -/
theorem At.set4 {w : World} {b : Nat} {e : TypeId} {c0 c1 c2 c3 : Value} (h : At w b #[c0, c1, c2, c3] e) (v0 v1 v2 v3 : Value) :
    At ((((w.setCell ⟨b, 0, none⟩ v0).setCell ⟨b, 1, none⟩ v1).setCell ⟨b, 2, none⟩ v2).setCell ⟨b, 3, none⟩ v3) b #[v0, v1, v2, v3] e := by
  have h1 := (((h.set 0 v0).set 1 v1).set 2 v2).set 3 v3
  simpa only [List.setIfInBounds_toArray, List.set_cons_zero, List.set_cons_succ] using h1
theorem below_set4 {w W : World} {B b : Nat} (h : Below B w W) (hb : B ≤ b) (v0 v1 v2 v3 : Value) :
    Below B w ((((W.setCell ⟨b, 0, none⟩ v0).setCell ⟨b, 1, none⟩ v1).setCell ⟨b, 2, none⟩ v2).setCell ⟨b, 3, none⟩ v3) :=
  (((h.setCell (p := ⟨b, 0, none⟩) hb _).setCell (p := ⟨b, 1, none⟩) hb _).setCell (p := ⟨b, 2, none⟩) hb _).setCell (p := ⟨b, 3, none⟩) hb _
/-- Five cells stored: a move's. -/
def put5 (w : World) (b : Nat) (v0 v1 v2 v3 v4 : Value) : World := ((((w.setCell ⟨b, 0, none⟩ v0).setCell ⟨b, 1, none⟩ v1).setCell ⟨b, 2, none⟩ v2).setCell ⟨b, 3, none⟩ v3).setCell ⟨b, 4, none⟩ v4
theorem At.put5 {w : World} {b : Nat} {e : TypeId} {c0 c1 c2 c3 c4 : Value} (h : At w b #[c0, c1, c2, c3, c4] e) (v0 v1 v2 v3 v4 : Value) : At (put5 w b v0 v1 v2 v3 v4) b #[v0, v1, v2, v3, v4] e := by
  have h1 := ((((h.set 0 v0).set 1 v1).set 2 v2).set 3 v3).set 4 v4
  simp only [List.setIfInBounds_toArray, List.set_cons_zero, List.set_cons_succ] at h1
  exact h1
theorem below_put5 {w W : World} {B b : Nat} (h : Below B w W) (hb : B ≤ b) (v0 v1 v2 v3 v4 : Value) : Below B w (put5 W b v0 v1 v2 v3 v4) :=
  ((((h.setCell (p := ⟨b, 0, none⟩) hb _).setCell (p := ⟨b, 1, none⟩) hb _).setCell (p := ⟨b, 2, none⟩) hb _).setCell (p := ⟨b, 3, none⟩) hb _).setCell (p := ⟨b, 4, none⟩) hb _
theorem set5_block {W : World} {b k : Nat} (h : k ≠ b) (v0 v1 v2 v3 v4 : Value) : (put5 W b v0 v1 v2 v3 v4).heap[k]? = W.heap[k]? :=
  (Below.heap_setCell _ _ _ _ h).trans ((Below.heap_setCell _ _ _ _ h).trans ((Below.heap_setCell _ _ _ _ h).trans ((Below.heap_setCell _ _ _ _ h).trans (Below.heap_setCell _ _ _ _ h))))
theorem size_set5 (W : World) (b : Nat) (v0 v1 v2 v3 v4 : Value) : (put5 W b v0 v1 v2 v3 v4).heap.size = W.heap.size := by unfold put5; simp
theorem keeps_set5 (W : World) (b : Nat) (v0 v1 v2 v3 v4 : Value) : KeepsOthers W (put5 W b v0 v1 v2 v3 v4) :=
  ((((KeepsOthers.setCell _ _ _).trans (KeepsOthers.setCell _ _ _)).trans (KeepsOthers.setCell _ _ _)).trans (KeepsOthers.setCell _ _ _)).trans (KeepsOthers.setCell _ _ _)
theorem kp9_set5 {W : World} {b : Nat} {cs : Array Value} {e : TypeId} (h : At W b cs e) (he : e ≠ 9) (v0 v1 v2 v3 v4 : Value) : Kp9 W (put5 W b v0 v1 v2 v3 v4) :=
  (Kp9.set h he 0 v0).t ((Kp9.set (h.set 0 v0) he 1 v1).t ((Kp9.set ((h.set 0 v0).set 1 v1) he 2 v2).t ((Kp9.set (((h.set 0 v0).set 1 v1).set 2 v2) he 3 v3).t (Kp9.set ((((h.set 0 v0).set 1 v1).set 2 v2).set 3 v3) he 4 v4))))
theorem LsR.set5M {w : World} {base : Nat} {l : List MvD} {v : Value} (h : LsR w base l v) {b : Nat} {cs : Array Value} (ha : At w b cs 27) (hv : v.ownBlock ≠ some b) (v0 v1 v2 v3 v4 : Value) : LsR (put5 w b v0 v1 v2 v3 v4) base l v :=
  ((((h.setM ha hv 0 v0).setM (ha.set 0 v0) hv 1 v1).setM ((ha.set 0 v0).set 1 v1) hv 2 v2).setM (((ha.set 0 v0).set 1 v1).set 2 v2) hv 3 v3).setM ((((ha.set 0 v0).set 1 v1).set 2 v2).set 3 v3) hv 4 v4
theorem M5Own.set5M {w : World} {base b : Nat} {c : M5} {m : MvD} {cs : Array Value} (h : M5Own w base c m) (ha : At w b cs 27) (v0 v1 v2 v3 v4 : Value) : M5Own (put5 w b v0 v1 v2 v3 v4) base c m :=
  ((((h.atL ha (by decide) 0 v0).atL (ha.set 0 v0) (by decide) 1 v1).atL ((ha.set 0 v0).set 1 v1) (by decide) 2 v2).atL (((ha.set 0 v0).set 1 v1).set 2 v2) (by decide) 3 v3).atL ((((ha.set 0 v0).set 1 v1).set 2 v2).set 3 v3) (by decide) 4 v4
theorem box1 {w : World} {b : Nat} {c0 : Value} {e : TypeId} (h : At w b #[c0] e) : w.cell? ⟨b, 0, none⟩ = some c0 ∧ w.frozen? ⟨b, 0, none⟩ = false := by
  unfold At at h
  constructor
  · unfold World.cell?; rw [h]; rfl
  · unfold World.frozen?; rw [h]; rfl
end Go.Proofs.Tryz
