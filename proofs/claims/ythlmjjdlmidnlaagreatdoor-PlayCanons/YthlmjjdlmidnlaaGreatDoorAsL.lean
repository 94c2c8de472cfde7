/- Canonical of the reference, by the kit's walk. -/
import Derived.Test.YthlmjjdlmidnlaaGreatDoorAsD
import Derived.Test.YthlmjjdlmidnlaaGreatDoorAsJ
namespace Go.Proofs.Tryz
open Go Go.Am Go.RowKit Go.Dr
set_option maxRecDepth 100000

theorem chkR_b {w : World} {y0 y1 : Int → Int} {yo yn eo en : Int} {d : Nat → MvD} {n : Nat} {pvv ev mv : Value} (b : Bool) (h : Laid w) (hp : IsStr pvv y0 yo yn) (he : IsStr ev y1 eo en) (hm : IsMoves w mv d n) :
    Calls prog 17 #[.agg #[pvv, ev, .bool b, mv]] w fun e w' => e = .returned (.int .i64 (plV y0 yo yn y1 eo en d n)) ∧ Below w.heap.size w w' := by
  cases b
  · exact chkR_w (lx := 0) h hp he hm
  · exact chkR_w (lx := 1) h hp he hm

theorem IsInts.but {W W' : World} {g : Nat} {v : Value} {t : Int → Int} {o n : Int} (h : IsInts W v t o n) (hk : ∀ k, k < W.heap.size → k ≠ g → W'.heap[k]? = W.heap[k]?) (hg : ∀ j z, W.cell? ⟨g, j, none⟩ ≠ some (.int .i64 z)) : IsInts W' v t o n := by
  obtain ⟨ad, m, c', rfl, h1, h2, h3⟩ := h
  refine ⟨ad, m, c', rfl, h1, h2, fun q => ?_⟩
  obtain ⟨b2, o2, e2, f2⟩ := h3 q
  refine ⟨b2, o2, e2, fun j hj => ?_⟩
  have := f2 j hj
  have hne : b2 ≠ g := fun e => by subst e; exact hg _ _ this
  rw [← this]
  unfold World.cell?
  rw [hk b2 (cell_under this) hne]
theorem no_int {W : World} {g : Nat} {z0 z1 : ByteArray} {z2 : Bool} {a : Option Addr} {k c : Nat} {e : TypeId} (hz : At W g #[.string z0, .string z1, .bool z2, .slice a k c] e) : ∀ j z, W.cell? ⟨g, j, none⟩ ≠ some (.int .i64 z) := fun j z q => by
  unfold At at hz
  match j with
  | 0 => simp [World.cell?, hz] at q
  | 1 => simp [World.cell?, hz] at q
  | 2 => simp [World.cell?, hz] at q
  | 3 => simp [World.cell?, hz] at q
  | j + 4 => simp [World.cell?, hz] at q

/-- The canonical moves of the first i of the sorted ones. -/
def LR (d : Nat → MvD) (ys : List Nat) (i : Nat) : List MvD := ((ys.take i).map fun k => plainM (d k)).filter fun m => !stayD m
theorem LR_yes {d : Nat → MvD} {ys : List Nat} {i k : Nat} (hk : ys[i]? = some k) (h : stayD (d k) = true) : LR d ys (i + 1) = LR d ys i := by
  unfold LR
  rw [List.take_add_one, hk, List.map_append, List.filter_append]
  have : stayD (plainM (d k)) = true := h
  simp [this]
theorem LR_no {d : Nat → MvD} {ys : List Nat} {i k : Nat} (hk : ys[i]? = some k) (h : stayD (d k) = false) : LR d ys (i + 1) = LR d ys i ++ [plainM (d k)] := by
  unfold LR
  rw [List.take_add_one, hk, List.map_append, List.filter_append]
  have : stayD (plainM (d k)) = false := h
  simp [this]
theorem F2.snoc {α β : Type} {R : α → β → Prop} {l : List α} {m : List β} (h : F2 R l m) {a : α} {b : β} (hab : R a b) : F2 R (l ++ [a]) (m ++ [b]) := by
  induction h with
  | nil => exact .cons hab .nil
  | cons h _ ih => exact .cons h ih
theorem M5Own.at {w : World} {base b : Nat} {c : M5} {m : MvD} {cs : Array Value} {e : TypeId} (h : M5Own w base c m) (ha : At w b cs e) (he : e ≠ 3) (o : Nat) (u : Value) : M5Own (w.setCell ⟨b, o, none⟩ u) base c m := by
  refine ⟨h.1, h.2.1, h.2.2.1, h.2.2.2.1, ownsRow_setCell_other h.2.2.2.2.1 (fun q => ?_) u, h.2.2.2.2.2⟩
  obtain ⟨cs', fz, hc⟩ := Lib.ownsRow_kind h.2.2.2.2.1 _ q
  unfold At at ha
  rw [ha] at hc
  simp only [Option.some.injEq, Obj.cells.injEq] at hc
  exact he hc.2.1
theorem M5Own.grown {w w' : World} {base base2 k : Nat} {c : M5} {m : MvD} {v : Value} {xs : List Value} (h : M5Own w base c m) (hv : w.ownsRow base2 27 5 v k xs) (hg : w.grownBy w' v.ownBlock) : M5Own w' base c m :=
  ⟨h.1, h.2.1, h.2.2.1, h.2.2.2.1, h.2.2.2.2.1.kept hg (kinds_ne h.2.2.2.2.1 hv (by decide)), h.2.2.2.2.2⟩
theorem M5Own.base {w : World} {base b2 : Nat} {c : M5} {m : MvD} (h : M5Own w base c m) (hb : b2 ≤ base) : M5Own w b2 c m := ⟨h.1, h.2.1, h.2.2.1, h.2.2.2.1, owns_base h.2.2.2.2.1 hb, h.2.2.2.2.2⟩

/-- The new play's moves behind i rounds. -/
def LoopR (wr : World) (base : Nat) (d : Nat → MvD) (ys : List Nat) (i : Nat) (v : Value) (rn pt : Bool) : Prop :=
  ∃ lk, wr.ownsRow base 27 5 v lk.length (flat lk) ∧ F2 (M5Own wr base) lk (LR d ys i) ∧ (LR d ys i).any runQ = rn ∧ (LR d ys i).any outQ = pt
theorem LoopR.start (wr : World) (base : Nat) (d : Nat → MvD) (ys : List Nat) : LoopR wr base d ys 0 (.slice none 0 0) false false := ⟨[], World.ownsRow_nil _ _ _ _, .nil, rfl, rfl⟩
theorem LoopR.below {w W : World} {base : Nat} {d : Nat → MvD} {ys : List Nat} {i : Nat} {v : Value} {rn pt : Bool} (h : LoopR w base d ys i v rn pt) (hb : Below w.heap.size w W) : LoopR W base d ys i v rn pt :=
  let ⟨lk, h1, h2, h3, h4⟩ := h; ⟨lk, owns_below h1 hb, h2.imp fun _ _ o => o.below hb, h3, h4⟩
theorem LoopR.stay {w : World} {base : Nat} {d : Nat → MvD} {ys : List Nat} {i k : Nat} {v : Value} {rn pt : Bool} (h : LoopR w base d ys i v rn pt) (hk : ys[i]? = some k) (hs : stayD (d k) = true) : LoopR w base d ys (i + 1) v rn pt := by
  unfold LoopR; rw [LR_yes hk hs]; exact h
theorem LoopR.slice {w : World} {base : Nat} {d : Nat → MvD} {ys : List Nat} {i : Nat} {v : Value} {rn pt : Bool} (h : LoopR w base d ys i v rn pt) : ∃ a k c, v = .slice a k c := let ⟨_, h1, _⟩ := h; owns_slice h1
/-- A store into a block below the rows. -/
theorem LoopR.set {w : World} {base : Nat} {d : Nat → MvD} {ys : List Nat} {i : Nat} {v : Value} {rn pt : Bool} (h : LoopR w base d ys i v rn pt) {b : Nat} (hb : b < base) (o : Nat) (u : Value) : LoopR (w.setCell ⟨b, o, none⟩ u) base d ys i v rn pt :=
  let ⟨lk, h1, h2, h3, h4⟩ := h
  ⟨lk, ownsRow_setCell_below h1 (by exact hb) u, h2.imp fun _ _ o' => ⟨o'.1, o'.2.1, o'.2.2.1, o'.2.2.2.1, ownsRow_setCell_below o'.2.2.2.2.1 (by exact hb) u, o'.2.2.2.2.2⟩, h3, h4⟩
/-- A store into a move's own block. -/
theorem LoopR.setM {w : World} {base : Nat} {d : Nat → MvD} {ys : List Nat} {i : Nat} {v : Value} {rn pt : Bool} (h : LoopR w base d ys i v rn pt) {b : Nat} {cs : Array Value} (ha : At w b cs 27) (hv : v.ownBlock ≠ some b) (o : Nat) (u : Value) : LoopR (w.setCell ⟨b, o, none⟩ u) base d ys i v rn pt :=
  let ⟨lk, h1, h2, h3, h4⟩ := h
  ⟨lk, ownsRow_setCell_other h1 hv u, h2.imp fun _ _ o' => o'.at ha (by decide) _ _, h3, h4⟩
/-- A move more. -/
theorem LoopR.more {w w' : World} {base : Nat} {d : Nat → MvD} {ys : List Nat} {i k m : Nat} {v v' : Value} {rn pt : Bool} {lk : List M5} (h1 : w.ownsRow base 27 5 v m (flat lk)) (h2 : F2 (M5Own w base) lk (LR d ys i)) (h3 : (LR d ys i).any runQ = rn) (h4 : (LR d ys i).any outQ = pt) (hk : ys[i]? = some k) (hs : stayD (d k) = false) {c : M5} (hc : M5Own w base c (plainM (d k)))
    (hg : w.grownBy w' v.ownBlock) (ho : w'.ownsRow base 27 5 v' (m + 1) (flat lk ++ c.vals)) : LoopR w' base d ys (i + 1) v' (rn || runQ (d k)) (pt || outQ (d k)) := by
  have hm : m = lk.length := by have := h1.1; rw [length_flat] at this; omega
  subst hm
  refine ⟨lk ++ [c], ?_, ?_, ?_, ?_⟩
  · have e : flat (lk ++ [c]) = flat lk ++ c.vals := by rw [flat_append]; simp [flat]
    rw [List.length_append, e]; exact ho
  · rw [LR_no hk hs]
    exact (h2.imp fun _ _ o => o.grown h1 hg).snoc (hc.grown h1 hg)
  · rw [LR_no hk hs, List.any_append, h3]
    simp only [List.any_cons, List.any_nil, Bool.or_false]; rfl
  · rw [LR_no hk hs, List.any_append, h4]
    simp only [List.any_cons, List.any_nil, Bool.or_false]; rfl

section
variable {w : World} {y0 y1 : Int → Int} {yo yn eo en : Int} {lx : Bool} {d : Nat → MvD} {n : Nat} {s1 s2 : ByteArray} {ad : Option Addr} {c : Nat}
set_option maxHeartbeats 12800000 in
theorem canR_w (hL : Laid w) (hp : IsStr (.string s1) y0 yo yn) (he : IsStr (.string s2) y1 eo en) (hm : IsMoves w (.slice ad n c) d n) (hn : n ≤ 1000000) (hbn : ∀ i, i < n → (d i).bn ≤ 1000000) :
    Calls prog 55 #[.agg #[.string s1, .string s2, .bool lx, .slice ad n c]] w fun e w' => PlAns w' e (canE y0 yo yn y1 eo en d n) (canP s1 s2 lx y0 yo yn y1 eo en d n) ∧ Below w.heap.size w w' := by
  have hsz := str_size hp
  have hB : Below w.heap.size w ((w.alloc (.cells #[.string s1, .string s2, .bool lx, .slice ad n c] 24)).alloc (.cells #[.string ⟨#[]⟩, .string ⟨#[]⟩, .bool false, .slice none 0 0] 24)) := ((Below.refl _ _).alloc (Nat.le_refl _) _).alloc (by simp) _
  have hx0 := at2_0 w #[.string s1, .string s2, .bool lx, .slice ad n c] #[.string ⟨#[]⟩, .string ⟨#[]⟩, .bool false, .slice none 0 0] 24 24
  have hz0 := at2_1 w #[.string s1, .string s2, .bool lx, .slice ad n c] #[.string ⟨#[]⟩, .string ⟨#[]⟩, .bool false, .slice none 0 0] 24 24
  have HB : Hid (BigC yn d n → canE y0 yo yn y1 eo en d n = 5 ∧ canP s1 s2 lx y0 yo yn y1 eo en d n = zeroP) := Lib.hid fun h => by
    have e1 : canE y0 yo yn y1 eo en d n = 5 := if_pos h
    exact ⟨e1, by unfold canP; rw [if_neg (by rw [e1]; decide)]⟩
  by_cases h1 : (24 : Int) < (s1.size : Int)
  · have hE := HB.out (.inl (by omega))
    have HE := Lib.hid hE
    clear hm hbn hsz hE
    go_enter func55, ntmps55
    obtain ⟨⟨z0, z1, z2, z3⟩, g0, g1, g2, g3⟩ := box4 hz0
    go_wp2
    refine bodyPost_ret (v := .tuple #[.agg #[.string ⟨#[]⟩, .string ⟨#[]⟩, .bool false, .slice none 0 0], .int .i64 5]) (by simp [results, results55, go_sem, z0, z1, z2, z3]) rfl ⟨?_, ?_⟩
    · rw [HE.out.1, HE.out.2]; exact ⟨_, rfl, zero_is _⟩
    · exact hB
  by_cases h2 : (4 : Int) < (n : Int)
  · have hE := HB.out (.inr (.inl (by omega)))
    have HE := Lib.hid hE
    clear hm hbn hsz hE
    go_enter func55, ntmps55
    obtain ⟨⟨z0, z1, z2, z3⟩, g0, g1, g2, g3⟩ := box4 hz0
    go_wp2
    refine bodyPost_ret (v := .tuple #[.agg #[.string ⟨#[]⟩, .string ⟨#[]⟩, .bool false, .slice none 0 0], .int .i64 5]) (by simp [results, results55, go_sem, z0, z1, z2, z3]) rfl ⟨?_, ?_⟩
    · rw [HE.out.1, HE.out.2]; exact ⟨_, rfl, zero_is _⟩
    · exact hB
  have hn4 : n ≤ 4 := by omega
  have hsz' : yn ≤ 24 := by omega
  have HM := Lib.hid hm
  clear hsz
  go_enter func55, ntmps55
  go_wp2
  go_loopw [4] (fun s wr => ∃ i : Nat, i ≤ n ∧ s = .int .i64 i ∧ anyK (fun i => decide (36 < (d i).bn)) i = false ∧ At wr w.heap.size #[.string s1, .string s2, .bool lx, .slice ad n c] 24 ∧ At wr (w.heap.size + 1) #[.string ⟨#[]⟩, .string ⟨#[]⟩, .bool false, .slice none 0 0] 24 ∧ Below w.heap.size w wr) (fun s _ => n - (numOf' s).toNat)
  case atStart => exact ⟨0, Nat.zero_le _, rfl, rfl, hx0, hz0, hB⟩
  case round =>
    clear hx0 hz0 hB
    obtain ⟨i, hi, rfl, hany, hx, hz, hb⟩ := hrel
    obtain ⟨⟨-, -, -, x3⟩, -⟩ := box4 hx
    by_cases hin : i < n
    · as_aux_lemma =>
        obtain ⟨a1, c1, e1, hnc, hM0⟩ := hm
        simp only [Value.slice.injEq, true_and] at e1
        obtain ⟨rfl, rfl⟩ := e1
        obtain ⟨b, off, rfl, hM⟩ := hM0 (by omega)
        obtain ⟨s, a, m, cc, hmv⟩ := mv_at ((hM i hin).below hb)
        obtain ⟨p0, p1, p2, p3, p4, -, -, hbm, -⟩ := hmv
        clear hM hM0 p0 p1 p2 p3
        by_cases h36 : (36 : Int) < (m : Int)
        · have hbig : BigC yn d n := .inr (.inr (anyK_mono (i := i + 1) (by omega) (by rw [anyK, Bool.or_eq_true]; right; simp; omega)))
          have HE := Lib.hid (HB.out hbig)
          clear hbig hbm hany
          obtain ⟨⟨z0, z1, z2, z3⟩, g0, g1, g2, g3⟩ := box4 hz
          go_wp2
          refine bodyPost_ret (v := .tuple #[.agg #[.string ⟨#[]⟩, .string ⟨#[]⟩, .bool false, .slice none 0 0], .int .i64 5]) (by simp [results, results55, go_sem, World.cell?_setCell_same, z0, z1, z2, z3]) rfl ⟨?_, ?_⟩
          · rw [HE.out.1, HE.out.2]; exact ⟨_, rfl, zero_is _⟩
          · exact (((hb.setCell (p := ⟨w.heap.size + 1, 0, none⟩) (by simp) _).setCell (p := ⟨w.heap.size + 1, 1, none⟩) (by simp) _).setCell (p := ⟨w.heap.size + 1, 2, none⟩) (by simp) _).setCell (p := ⟨w.heap.size + 1, 3, none⟩) (by simp) _
        · have hany' : Hid (anyK (fun i => decide (36 < (d i).bn)) (i + 1) = false) := Lib.hid (by rw [anyK, hany, Bool.false_or, decide_eq_false_iff_not]; omega)
          clear hany hbm
          go_wp2
          go_roundw
          case rel => exact ⟨i + 1, by omega, by go_num, hany'.out, hx, hz, hb⟩
          case measure => simp [numOf'] <;> omega
    · as_aux_lemma =>
        obtain rfl : i = n := by omega
        have HBIG : Hid (¬ BigC yn d i) := Lib.hid (by
          rintro (h | h | h)
          · omega
          · omega
          · rw [hany] at h; cases h)
        clear hany HB
        go_wp2
        go_loopw [5, 6] (fun s _ wr => ∃ j : Nat, j ≤ i ∧ s = .int .i64 j ∧ (∀ q p, p < q → q < j → (d p).fr ≠ (d q).fr) ∧ At wr w.heap.size #[.string s1, .string s2, .bool lx, .slice ad i c] 24 ∧ At wr (w.heap.size + 1) #[.string ⟨#[]⟩, .string ⟨#[]⟩, .bool false, .slice none 0 0] 24 ∧ Below w.heap.size w wr) (fun s _ _ => i - (numOf' s).toNat)
        case atStart => exact ⟨0, Nat.zero_le _, rfl, fun q p _ h => absurd h (Nat.not_lt_zero _), hx, hz, hb⟩
        case round =>
          clear hx hz hb x3 hin
          obtain ⟨j, hj, rfl, hnd, hx, hz, hb⟩ := hrel
          obtain ⟨⟨-, -, -, x3⟩, -⟩ := box4 hx
          by_cases hjn : j < i
          · as_aux_lemma =>
              obtain ⟨b, off, rfl, hnc, f, hf, hcf⟩ := m5_row hm (by omega)
              go_wp2
              go_loopw [6] (fun s wr => ∃ p : Nat, p ≤ j ∧ s = .int .i64 p ∧ (∀ q, q < p → (d q).fr ≠ (d j).fr) ∧ At wr w.heap.size #[.string s1, .string s2, .bool lx, .slice (some ⟨b, off, none⟩) i c] 24 ∧ At wr (w.heap.size + 1) #[.string ⟨#[]⟩, .string ⟨#[]⟩, .bool false, .slice none 0 0] 24 ∧ Below w.heap.size w wr) (fun s _ => j - (numOf' s).toNat)
              case atStart => exact ⟨0, Nat.zero_le _, rfl, fun q h => absurd h (Nat.not_lt_zero _), hx, hz, hb⟩
              case round =>
                clear hx hz hb x3
                obtain ⟨p, hpj, rfl, hno, hx, hz, hb⟩ := hrel
                obtain ⟨⟨-, -, -, x3⟩, -⟩ := box4 hx
                by_cases hlt : p < j
                · obtain ⟨p0, -⟩ := hcf p (by omega)
                  obtain ⟨q0, -⟩ := hcf j hjn
                  have f1 := (hf p (by omega)).1
                  have f2 := (hf j hjn).1
                  have p0 := cell_b p0 hb (cell_under p0)
                  have q0 := cell_b q0 hb (cell_under q0)
                  rw [f1] at p0
                  rw [f2] at q0
                  have hpi : p < i := by omega
                  clear hcf hf f1 f2
                  have hxD : At wr.drew w.heap.size #[.string s1, .string s2, .bool lx, .slice (some ⟨b, off, none⟩) i c] 24 := hx
                  have hzD : At wr.drew (w.heap.size + 1) #[.string ⟨#[]⟩, .string ⟨#[]⟩, .bool false, .slice none 0 0] 24 := hz
                  have hbD := hb.drew
                  by_cases heq : (d p).fr = (d j).fr
                  · have hdup : DupD d i := ⟨p, j, hlt, hjn, heq⟩
                    have HE : Hid (canE y0 yo yn y1 eo en d i = 9 ∧ canP s1 s2 lx y0 yo yn y1 eo en d i = zeroP) := Lib.hid (by
                      have e1 : canE y0 yo yn y1 eo en d i = 9 := by unfold canE; rw [if_neg HBIG.out, if_pos hdup]
                      exact ⟨e1, by unfold canP; rw [if_neg (by rw [e1]; decide)]⟩)
                    rw [heq] at p0
                    generalize (d j).fr = z at p0 q0
                    clear heq hdup hno hnd
                    go_wp2_with fail
                    go_region
                    clear hx hz hb p0 q0 x3
                    generalize wr.drew = W at hzD hbD ⊢
                    obtain ⟨⟨z0, z1, z2, z3⟩, g0, g1, g2, g3⟩ := box4 hzD
                    go_wp2
                    refine bodyPost_ret (v := .tuple #[.agg #[.string ⟨#[]⟩, .string ⟨#[]⟩, .bool false, .slice none 0 0], .int .i64 9]) (by simp [results, results55, go_sem, World.cell?_setCell_same, z0, z1, z2, z3]) rfl ⟨?_, ?_⟩
                    · rw [HE.out.1, HE.out.2]; exact ⟨_, rfl, zero_is _⟩
                    · exact (((hbD.setCell (p := ⟨w.heap.size + 1, 0, none⟩) (by simp) _).setCell (p := ⟨w.heap.size + 1, 1, none⟩) (by simp) _).setCell (p := ⟨w.heap.size + 1, 2, none⟩) (by simp) _).setCell (p := ⟨w.heap.size + 1, 3, none⟩) (by simp) _
                  · have hno' : Hid (∀ q, q < p + 1 → (d q).fr ≠ (d j).fr) := Lib.hid fun q hq => by
                      by_cases e : q = p
                      · subst e; exact heq
                      · exact hno q (by omega)
                    obtain ⟨z, hz1⟩ : ∃ z, (d p).fr = z := ⟨_, rfl⟩
                    obtain ⟨z', hz2⟩ : ∃ z, (d j).fr = z := ⟨_, rfl⟩
                    rw [hz1] at p0 heq
                    rw [hz2] at q0 heq
                    clear hz1 hz2
                    clear hno
                    go_wp2_with fail
                    go_region
                    go_wp2
                    go_roundw
                    case rel => exact ⟨p + 1, by omega, by go_num, hno'.out, hxD, hzD, hbD⟩
                    case measure => simp [numOf'] <;> omega
                · obtain rfl : p = j := by omega
                  have hnd' : Hid (∀ q r, r < q → q < p + 1 → (d r).fr ≠ (d q).fr) := Lib.hid fun q r h1 h2 => by
                    by_cases e : q = p
                    · subst e; exact hno r h1
                    · exact hnd q r h1 (by omega)
                  clear hno hnd hcf hf
                  go_wp2
                  go_roundw
                  case rel => exact ⟨p + 1, by omega, by go_num, hnd'.out, hx, hz, hb⟩
                  case measure => simp [numOf'] <;> omega
          · as_aux_lemma =>
              obtain rfl : j = i := by omega
              have hnd' : ¬ DupD d j := fun ⟨p, q, h1, h2, h3⟩ => hnd q p h1 h2 h3
              obtain ⟨⟨x0, x1, x2, -⟩, -⟩ := box4 hx
              have hbA := hb.alloc hb.size (.cells #[.string s1, .string s2, .bool false, .slice none 0 0] 24)
              have hA := at_new wr #[.string s1, .string s2, .bool false, .slice none 0 0] 24
              have hxA := hx.alloc (.cells #[.string s1, .string s2, .bool false, .slice none 0 0] 24)
              have hzA := hz.alloc (.cells #[.string s1, .string s2, .bool false, .slice none 0 0] 24)
              have cS := sortedR_w (hm.below hbA) (by omega)
              obtain ⟨⟨-, -, -, x3'⟩, -⟩ := box4 hxA
              have HND := Lib.hid hnd'
              have lz := hz.lt
              clear hnd hnd' hx hz hb
              go_wp2_with fail
              go_at_call 105
              refine cS.mono ?_
              rintro e w5 ⟨⟨v5, rfl, f, ys, hys, hpair, hok, hown⟩, hk5⟩
              have hb5 := hbA.trans (hk5.mono hbA.size)
              have hA5 := hA.below hk5 hA.lt
              have hx5 := hxA.below hk5 hxA.lt
              have hz5 := hzA.below hk5 hzA.lt
              have hyl : ys.length = j := by have := hys.length_eq; simpa using this
              have hysE : ys = srtI d j := srt_uniq hys hpair HND.out
              have HY : Hid (ys = srtI d j ∧ ¬ DupD d j) := Lib.hid ⟨hysE, HND.out⟩
              have HOK : Hid (∀ i, i < j → M5Ok w5 (f i) (d i)) := Lib.hid fun i hi => (hok i hi).below hk5
              have hym : ∀ i k, ys[i]? = some k → k < j := fun i k h => List.mem_range.1 (hys.mem_iff.1 (List.mem_iff_getElem?.2 ⟨i, h⟩))
              have HYM := Lib.hid hym
              have hlr := LoopR.start w5 w5.heap.size d ys
              obtain ⟨a5, k5, c5, rfl⟩ := owns_slice hown
              have hk5e : k5 = j := by
                rcases hown.2 with ⟨e, hj0⟩ | ⟨g, cap, cur, e, _⟩
                · simp only [Value.slice.injEq] at e; omega
                · simp only [Value.slice.injEq] at e; exact e.2.1
              obtain ⟨B7, hB7⟩ : ∃ B7, wr.heap.size = B7 := ⟨_, rfl⟩
              have lA := hA5.lt
              rw [hB7] at hA5 lA ⊢
              have lB : w.heap.size + 1 < B7 := by omega
              have hs5 : B7 < w5.heap.size := lA
              subst hk5e
              have HG : Hid (k5 ≠ 0 → ∃ g, a5 = some ⟨g, 0, none⟩ ∧ g ≠ B7 ∧ g < w5.heap.size ∧ ∀ i k, ys[i]? = some k → (w5.cell? ⟨g, i * 5, none⟩ = some (.int .i64 (f k).f1) ∧ w5.cell? ⟨g, i * 5 + 1, none⟩ = some (.int .i64 (f k).f2) ∧ w5.cell? ⟨g, i * 5 + 2, none⟩ = some (.bool (f k).xb) ∧ w5.cell? ⟨g, i * 5 + 3, none⟩ = some (.string (f k).s) ∧ w5.cell? ⟨g, i * 5 + 4, none⟩ = some (.slice (f k).a (f k).k (f k).c))) := Lib.hid fun h0 => by
                rcases hown.2 with ⟨e, hj0⟩ | ⟨g, cap, cur, e, _⟩
                · exact absurd hj0 h0
                · simp only [Value.slice.injEq] at e
                  obtain ⟨rfl, _, rfl⟩ := e
                  have hrow : RowM w5 _ g k5 c5 (ys.map f) := hown
                  refine ⟨g, rfl, fun q => ?_, hrow.lt.2, fun i k hk => (hrow.cells (i := i) (m := f k) (by rw [List.getElem?_map, hk]; rfl)).1⟩
                  subst q
                  obtain ⟨cs', fz, hc⟩ := Lib.ownsRow_kind hown g rfl
                  unfold At at hA5
                  rw [hA5] at hc
                  simp at hc
              obtain ⟨i27, hi27, hz270, hz271, hz272⟩ := info_more info27
              have zz : ((.agg #[.int .i64 0, .int .i64 0, .bool false, .string ⟨#[]⟩, .slice none 0 0] : Value)).cells.size = 5 := rfl
              have hwb := hb5.size
              have HNI := Lib.hid (no_int hA5)
              clear hA hxA hzA hbA cS hys hpair hok hk5 hysE hB7 x0 x1 x2 x3 x3' HND hym lz hown
              go_wp2_with fail
              go_loopw [9, 10, 11] (fun rn pt s wr => ∃ (i : Nat) (v : Value) (r p : Bool), i ≤ k5 ∧ s = .int .i64 i ∧ rn = .bool r ∧ pt = .bool p ∧ LoopR wr w5.heap.size d ys i v r p ∧ At wr B7 #[.string s1, .string s2, .bool false, v] 24 ∧ At wr w.heap.size #[.string s1, .string s2, .bool lx, .slice ad k5 c] 24 ∧ At wr (w.heap.size + 1) #[.string ⟨#[]⟩, .string ⟨#[]⟩, .bool false, .slice none 0 0] 24 ∧ Below w.heap.size w wr ∧ w5.heap.size ≤ wr.heap.size ∧ ∀ q, q < w5.heap.size → q ≠ B7 → wr.heap[q]? = w5.heap[q]?) (fun _ _ s _ => k5 - (numOf' s).toNat)
              case atStart => exact ⟨0, _, false, false, Nat.zero_le _, rfl, rfl, rfl, hlr, hA5, hx5, hz5, hb5, Nat.le_refl _, fun _ _ _ => rfl⟩
              case round =>
                clear hlr hA5 hx5 hz5 hb5 lA
                obtain ⟨i, v, r, p, hi, rfl, rfl, rfl, hlr, hA, hx, hz, hb, hsw, hpres⟩ := hrel
                by_cases hin : i < k5
                · as_aux_lemma =>
                    obtain ⟨g, rfl, hgB, hgl, hcells⟩ := HG.out (by omega)
                    obtain ⟨k, hk⟩ : ∃ k, ys[i]? = some k := ⟨_, List.getElem?_eq_getElem (by omega)⟩
                    have hkn := HYM.out i k hk
                    have hok0 := HOK.out k hkn
                    have hok : M5Ok wr (f k) (d k) := ⟨hok0.1, hok0.2.1, hok0.2.2.1, hok0.2.2.2.1, hok0.2.2.2.2.but hpres HNI.out⟩
                    have hce : ∀ o, wr.cell? ⟨g, o, none⟩ = w5.cell? ⟨g, o, none⟩ := fun o => by
                      unfold World.cell?
                      rw [hpres g hgl hgB]
                    obtain ⟨p0, p1, p2, p3, p4⟩ := hcells i k hk
                    rw [← hce] at p0 p1 p2 p3 p4
                    have hbk := hbn k hkn
                    have HL2 := Lib.hid (hL.below hb)
                    clear hok0 hce hcells
                    generalize f k = cc at hok p0 p1 p2 p3 p4
                    have hq : Hid (cc.f1 = (d k).fr ∧ cc.f2 = (d k).to ∧ cc.xb = decide ((d k).x ≠ 0) ∧ IsStr (.string cc.s) (d k).y (d k).so (d k).sn) := Lib.hid ⟨hok.1, hok.2.1, hok.2.2.1, hok.2.2.2.1⟩
                    have hal := (Below.refl wr.heap.size wr).alloc (Nat.le_refl _) (.cells #[.int .i64 cc.f1, .int .i64 cc.f2, .bool cc.xb, .string cc.s, .slice cc.a cc.k cc.c] 27)
                    have cS := staysR_w hok _ (HL2.out.below hal)
                    have hN := at_new wr #[.int .i64 cc.f1, .int .i64 cc.f2, .bool cc.xb, .string cc.s, .slice cc.a cc.k cc.c] 27
                    obtain ⟨st, hst⟩ : ∃ st, stayD (d k) = st := ⟨_, rfl⟩
                    have HST := Lib.hid hst
                    rw [hst] at cS
                    have hkH := Lib.hid hk
                    have hints := Lib.hid hok.2.2.2.2
                    clear hst hok hk
                    go_wp2_with fail
                    go_at_call 106
                    refine cS.mono ?_
                    rintro e w6 ⟨rfl, hk6⟩
                    have hB6 : Below wr.heap.size wr w6 := hal.trans (hk6.mono hal.size)
                    have hlr6 := hlr.below hB6
                    have hA6 := hA.below hB6 hA.lt
                    have hx6 := hx.below hB6 hx.lt
                    have hz6 := hz.below hB6 hz.lt
                    have hb6 := hb.trans (hB6.mono hb.size)
                    have hN6 := hN.below hk6 hN.lt
                    have hs6 := Nat.le_trans hsw hB6.size
                    have hp6 : ∀ q, q < w5.heap.size → q ≠ B7 → w6.heap[q]? = w5.heap[q]? := fun q h1 h2 => (hB6.block q (by omega)).trans (hpres q h1 h2)
                    have hln : wr.heap.size < w6.heap.size := hN6.lt
                    have hvn : v.ownBlock ≠ some wr.heap.size := fun e => by
                      obtain ⟨lk, ho, -⟩ := hlr
                      have := (ho.lt _ e).2; omega
                    clear p0 p1 p2 p3 p4 cS hal hA hx hz hb hN hk6 hlr hpres
                    cases st with
                    | true =>
                      have hl2 := hlr6.stay hkH.out HST.out
                      clear hlr6
                      go_wp2
                      go_roundw
                      case rel => exact ⟨i + 1, v, r, p, by omega, by go_num, rfl, rfl, hl2, hA6, hx6, hz6, hb6, hs6, hp6⟩
                      case measure => simp [numOf'] <;> omega
                    | false =>
                      have cP := plain_w (hints.out.below hB6) hbk
                      obtain ⟨⟨p0, p1, p2, p3, p4⟩, -⟩ := box5 hN6
                      go_wp2_with fail
                      go_at_call 107
                      refine cP.mono ?_
                      rintro e w7 ⟨v7, rfl, ho7, hk7⟩
                      have hlr7 := hlr6.below hk7
                      have hA7 := hA6.below hk7 hA6.lt
                      have hx7 := hx6.below hk7 hx6.lt
                      have hz7 := hz6.below hk7 hz6.lt
                      have hb7 := hb6.trans (hk7.mono hb6.size)
                      have hN7 := hN6.below hk7 hN6.lt
                      have hs7 := hk7.size
                      have hp7 : ∀ q, q < w5.heap.size → q ≠ B7 → w7.heap[q]? = w5.heap[q]? := fun q h1 h2 => (hk7.block q (by omega)).trans (hp6 q h1 h2)
                      obtain ⟨a7, k7, c7, rfl⟩ := owns_slice ho7
                      obtain ⟨av, kv, cv, rfl⟩ := hlr7.slice
                      clear cP p0 p1 p2 p3 p4 hlr6 hA6 hx6 hz6 hb6 hN6 hp6 hk7
                      have hlr8 := hlr7.setM hN7 hvn 4 (.slice a7 k7 c7)
                      have hA8 := hA7.setCell (a := ⟨wr.heap.size, 4, none⟩) (by simp; omega) (.slice a7 k7 c7)
                      have hx8 := hx7.setCell (a := ⟨wr.heap.size, 4, none⟩) (by simp; omega) (.slice a7 k7 c7)
                      have hz8 := hz7.setCell (a := ⟨wr.heap.size, 4, none⟩) (by simp; omega) (.slice a7 k7 c7)
                      have hb8 := hb7.setCell (p := ⟨wr.heap.size, 4, none⟩) (by simp; omega) (.slice a7 k7 c7)
                      have hN8 := hN7.set 4 (.slice a7 k7 c7)
                      simp only [List.setIfInBounds_toArray, List.set_cons_zero, List.set_cons_succ] at hN8
                      have hp8 : ∀ q, q < w5.heap.size → q ≠ B7 → (w7.setCell ⟨wr.heap.size, 4, none⟩ (.slice a7 k7 c7)).heap[q]? = w5.heap[q]? := fun q h1 h2 => (Below.heap_setCell _ _ _ _ (by simp; omega)).trans (hp7 q h1 h2)
                      have ho8 := ownsRow_setCell_other ho7 (a := ⟨wr.heap.size, 4, none⟩) (fun e => by
                        obtain ⟨cs', fz, hc⟩ := Lib.ownsRow_kind ho7 _ e
                        unfold At at hN7
                        rw [hN7] at hc
                        simp at hc) (.slice a7 k7 c7)
                      have f4 : w7.frozen? ⟨wr.heap.size, 4, none⟩ = false := (box5 hN7).2.2.2.2.2
                      have q4 : w7.cell? ⟨wr.heap.size, 4, none⟩ = some (.slice cc.a cc.k cc.c) := (box5 hN7).1.2.2.2.2
                      have hs8 : (w7.setCell ⟨wr.heap.size, 4, none⟩ (.slice a7 k7 c7)).heap.size = w7.heap.size := size_set _ _ _
                      have hM8 : M5Own (w7.setCell ⟨wr.heap.size, 4, none⟩ (.slice a7 k7 c7)) w5.heap.size { cc with a := a7, k := k7, c := c7 } (plainM (d k)) := ⟨hq.out.1, hq.out.2.1, hq.out.2.2.1, hq.out.2.2.2, by rw [tchs_plainM]; exact owns_base ho8 (by omega), by simp [plainM]⟩
                      obtain ⟨⟨q0, q1, q2, q3, -⟩, -⟩ := box5 hN7
                      obtain ⟨⟨-, -, -, y3⟩, -⟩ := box4 hA7
                      obtain ⟨lk, hown, hF, hr1, hr2⟩ := hlr8
                      obtain rfl : kv = lk.length := by
                        rcases hown.2 with ⟨e, h0⟩ | ⟨g, cap, cur, e, _⟩
                        · simp only [Value.slice.injEq] at e; omega
                        · simp only [Value.slice.injEq] at e; exact e.2.1
                      have HF := Lib.hid hF
                      have HR12 : Hid ((LR d ys i).any runQ = r ∧ (LR d ys i).any outQ = p) := Lib.hid ⟨hr1, hr2⟩
                      have HM8 := Lib.hid hM8
                      have hlk : lk.length ≤ 1000000 := by
                        have := hF.len
                        rw [this]
                        unfold LR
                        refine Nat.le_trans (List.length_filter_le _ _) ?_
                        rw [List.length_map]
                        refine Nat.le_trans (List.length_take_le _ _) ?_
                        omega
                      clear hlr7 hA7 hx7 hz7 hb7 hN7 hp7 ho7 ho8 hF hr1 hr2 hM8
                      go_wp2_with (first
                        | (at_builtin; refine wpList_append_own _ rfl _ _ 22 rfl w5.heap.size 27 i27 _ 5 64 underlying22 hi27 hz270 hz271 hz272 zz (by decide) _ _ _ rfl (hown.alloc _) ⟨w7.heap.size, 0, none⟩ 1 1 [.int .i64 cc.f1, .int .i64 cc.f2, .bool cc.xb, .string cc.s, .slice a7 k7 c7] rfl rfl ?c1 ?c2 ?c3 ?c4 ?c5 ?_)
                        | fail)
                      case c1 =>
                        intro j u hj
                        rw [add_adr, Nat.zero_add, cell_new _ _ _ _ (size_set _ _ _).symm]
                        simpa using hj
                      case c2 => intro u hu; simp at hu; rcases hu with rfl | rfl | rfl | rfl | rfl <;> rfl
                      case c3 => unfold maxLen; omega
                      case c4 => omega
                      case c5 => simp; omega
                      intro v9 w9 ho9 hgr9 _
                      obtain ⟨a9, k9, c9, rfl⟩ := owns_slice ho9
                      have hal9 := (Below.refl _ _).alloc (Nat.le_refl _) (.cells #[.int .i64 cc.f1, .int .i64 cc.f2, .bool cc.xb, .string cc.s, .slice a7 k7 c7] 27) (w := w7.setCell ⟨wr.heap.size, 4, none⟩ (.slice a7 k7 c7))
                      have hlr9 : LoopR w9 w5.heap.size d ys (i + 1) (.slice a9 k9 c9) (r || runQ (d k)) (p || outQ (d k)) := LoopR.more (hown.alloc _) (HF.out.imp fun _ _ o => o.below hal9) HR12.out.1 HR12.out.2 hkH.out HST.out (HM8.out.below hal9) hgr9 ho9
                      have hol := hown.lt
                      have hA9 : At w9 B7 #[.string s1, .string s2, .bool false, .slice av lk.length cv] 24 := (hgr9.block _ (hA8.alloc _).lt (fun e => by have := (hol _ e.symm).1; omega)).trans (hA8.alloc _)
                      have hx9 : At w9 w.heap.size #[.string s1, .string s2, .bool lx, .slice ad k5 c] 24 := (hgr9.block _ (hx8.alloc _).lt (fun e => by have := (hol _ e.symm).1; omega)).trans (hx8.alloc _)
                      have hz9 : At w9 (w.heap.size + 1) #[.string ⟨#[]⟩, .string ⟨#[]⟩, .bool false, .slice none 0 0] 24 := (hgr9.block _ (hz8.alloc _).lt (fun e => by have := (hol _ e.symm).1; omega)).trans (hz8.alloc _)
                      have hN9 : At w9 wr.heap.size #[.int .i64 cc.f1, .int .i64 cc.f2, .bool cc.xb, .string cc.s, .slice a7 k7 c7] 27 := (hgr9.block _ (hN8.alloc _).lt (fun e => hvn e.symm)).trans (hN8.alloc _)
                      have hsz9 : w7.heap.size ≤ w9.heap.size := by have := hgr9.size; simp at this; omega
                      have hb9 : Below w.heap.size w w9 := (hb8.alloc hb8.size _).grown hgr9 (by have := hb8.size; simp at this ⊢; omega) (fun q hq => by have := (hol q hq).1; omega)
                      have hp9 : ∀ q, q < w5.heap.size → q ≠ B7 → w9.heap[q]? = w5.heap[q]? := fun q h1 h2 => (hgr9.block q (by simp; omega) (fun e => by have := (hol _ e.symm).1; omega)).trans ((Below.heap_alloc _ _ _ (by simp; omega)).trans (hp8 q h1 h2))
                      obtain ⟨⟨z0, z1, z2, z3⟩, g0, g1, g2, g3⟩ := box4 hA9
                      have hlr10 := hlr9.set (b := B7) hs5 3 (.slice a9 k9 c9)
                      have hA10 := hA9.set 3 (.slice a9 k9 c9)
                      simp only [List.setIfInBounds_toArray, List.set_cons_zero, List.set_cons_succ] at hA10
                      have hx10 := hx9.setCell (a := ⟨B7, 3, none⟩) (by simp; omega) (.slice a9 k9 c9)
                      have hz10 := hz9.setCell (a := ⟨B7, 3, none⟩) (by simp; omega) (.slice a9 k9 c9)
                      have hN10 := hN9.setCell (a := ⟨B7, 3, none⟩) (by simp; omega) (.slice a9 k9 c9)
                      have hb10 := hb9.setCell (p := ⟨B7, 3, none⟩) (by simp; omega) (.slice a9 k9 c9)
                      have hp10 : ∀ q, q < w5.heap.size → q ≠ B7 → (w9.setCell ⟨B7, 3, none⟩ (.slice a9 k9 c9)).heap[q]? = w5.heap[q]? := fun q h1 h2 => (Below.heap_setCell _ _ _ _ (by simp; omega)).trans (hp9 q h1 h2)
                      have hs10 : w5.heap.size ≤ (w9.setCell ⟨B7, 3, none⟩ (.slice a9 k9 c9)).heap.size := by rw [size_set]; omega
                      obtain ⟨⟨m0, m1, m2, m3, m4⟩, -⟩ := box5 hN9
                      have e1 : runQ (d k) = (!cc.xb && decide (cc.f2 = 4)) := by unfold runQ; rw [hq.out.2.1, hq.out.2.2.1]; by_cases hx : (d k).x = 0 <;> simp [hx]
                      have e2 : outQ (d k) = cc.xb := by unfold outQ; rw [hq.out.2.2.1]
                      have HMr : Hid (∀ r' p', r' = (r || (!cc.xb && decide (cc.f2 = 4))) → p' = (p || cc.xb) → LoopR (w9.setCell ⟨B7, 3, none⟩ (.slice a9 k9 c9)) w5.heap.size d ys (i + 1) (.slice a9 k9 c9) r' p') := Lib.hid fun r' p' h1 h2 => by
                        rw [h1, h2, ← e1, ← e2]; exact hlr10
                      have hnB : ¬ B7 = wr.heap.size := by omega
                      have hnB' : ¬ wr.heap.size = B7 := by omega
                      clear hlr9 hlr10 hA9 hx9 hz9 hN9 hb9 hp9 hA8 hx8 hz8 hb8 hN8 hp8 hown ho9 hgr9 hal9 hol e1 e2 HF HR12 HM8 q0 q1 q2 q3 y3 f4 q4 hq
                      obtain ⟨⟨n0, n1, n2, n3, n4⟩, -⟩ := box5 hN10
                      clear hN10
                      obtain ⟨f1, f2, xb, cs, ca, ck, cq⟩ := cc
                      dsimp only at m1 m2 n1 n2 HMr
                      by_cases h4 : f2 = 4
                      · subst h4
                        cases xb <;> cases r <;> cases p <;>
                        · go_wp2_with fail
                          go_roundw
                          case rel => exact ⟨i + 1, _, _, _, by omega, by go_num, rfl, rfl, HMr.out _ _ rfl rfl, hA10, hx10, hz10, hb10, hs10, hp10⟩
                          case measure => simp [numOf'] <;> omega
                      · have h4d : decide (f2 = 4) = false := by simp [h4]
                        have h4b : (f2 == 4) = false := by simp [h4]
                        cases xb <;> cases r <;> cases p <;>
                        · go_wp2_with fail
                          go_roundw
                          case rel => exact ⟨i + 1, _, _, _, by omega, by go_num, rfl, rfl, HMr.out _ _ (by simp [h4]) (by simp), hA10, hx10, hz10, hb10, hs10, hp10⟩
                          case measure => simp [numOf'] <;> omega
                · as_aux_lemma =>
                    obtain rfl : i = k5 := by omega
                    have hLe : LR d ys i = canL d i := by
                      unfold LR canL
                      rw [List.take_of_length_le (by omega), HY.out.1]
                    have hlr' := hlr
                    obtain ⟨lk, hown, hF, hr1, hr2⟩ := hlr'
                    obtain ⟨av, kv, cv, rfl⟩ := owns_slice hown
                    rw [hLe] at hF hr1 hr2
                    obtain ⟨L, hL1⟩ : ∃ L, canL d i = L := ⟨_, rfl⟩
                    rw [hL1] at hF hr1 hr2
                    obtain ⟨pv, hpv⟩ : ∃ pv, plV y0 yo yn y1 eo en (dOf L) L.length = pv := ⟨_, rfl⟩
                    have HC : Hid (canE y0 yo yn y1 eo en d i = pv ∧ canP s1 s2 lx y0 yo yn y1 eo en d i = if pv = 0 then ⟨s1, s2, lateC lx L, L⟩ else zeroP) := Lib.hid (by
                      have e1 : canE y0 yo yn y1 eo en d i = pv := by unfold canE; rw [if_neg HBIG.out, if_neg HY.out.2, hL1, hpv]
                      refine ⟨e1, ?_⟩
                      unfold canP
                      rw [e1, hL1])
                    have HR : Hid (L.any runQ = r ∧ L.any outQ = p) := Lib.hid ⟨hr1, hr2⟩
                    have hkv : kv = L.length := by
                      have e1 : kv = lk.length := by
                        rcases hown.2 with ⟨e, h0⟩ | ⟨g, cap, cur, e, _⟩
                        · simp only [Value.slice.injEq] at e; omega
                        · simp only [Value.slice.injEq] at e; exact e.2.1
                      rw [e1, hF.len]
                    subst hkv
                    have hmv : Hid (∀ b : Bool, IsMoves (wr.setCell ⟨B7, 2, none⟩ (.bool b)) (.slice av L.length cv) (dOf L) L.length) := Lib.hid fun b => by
                      obtain ⟨lk', ho', hF', -, -⟩ := hlr.set (b := B7) hs5 2 (.bool b)
                      rw [hLe, hL1] at hF'
                      exact (moves_flat ho' (hF'.imp fun _ _ o => o.ok)).2
                    have hbs : ∀ b : Bool, Below w.heap.size w (wr.setCell ⟨B7, 2, none⟩ (.bool b)) := fun b => hb.setCell (p := ⟨B7, 2, none⟩) (by simp; omega) _
                    have cC : ∀ b : Bool, Calls prog 17 #[.agg #[.string s1, .string s2, .bool b, .slice av L.length cv]] (wr.setCell ⟨B7, 2, none⟩ (.bool b)) fun e w' => e = .returned (.int .i64 pv) ∧ Below (wr.setCell ⟨B7, 2, none⟩ (.bool b)).heap.size (wr.setCell ⟨B7, 2, none⟩ (.bool b)) w' := fun b => by
                      have := chkR_b b (hL.below (hbs b)) hp he (hmv.out b)
                      rw [hpv] at this
                      exact this
                    have hAs : ∀ b : Bool, At (wr.setCell ⟨B7, 2, none⟩ (.bool b)) B7 #[.string s1, .string s2, .bool b, .slice av L.length cv] 24 := fun b => by
                      have := hA.set 2 (.bool b)
                      simp only [List.setIfInBounds_toArray, List.set_cons_zero, List.set_cons_succ] at this
                      exact this
                    have hzs : ∀ b : Bool, At (wr.setCell ⟨B7, 2, none⟩ (.bool b)) (w.heap.size + 1) #[.string ⟨#[]⟩, .string ⟨#[]⟩, .bool false, .slice none 0 0] 24 := fun b => hz.setCell (a := ⟨B7, 2, none⟩) (by simp; omega) _
                    clear hlr hown hF hr1 hr2 hLe hL1 hpv hpres
                    obtain ⟨⟨x0, x1, x2, x3⟩, -⟩ := box4 hx
                    obtain ⟨⟨y0', y1', y2', y3'⟩, -, -, fy2, -⟩ := box4 hA
                    cases lx with
                    | false =>
                      go_wp2_with fail
                      go_at_call 17
                      refine (cC false).mono ?_
                      rintro e w10 ⟨rfl, hk10⟩
                      have hA11 := (hAs false).below hk10 (hAs false).lt
                      have hz11 := (hzs false).below hk10 (hzs false).lt
                      have hb11 := (hbs false).trans (hk10.mono (hbs false).size)
                      have hm11 := Lib.hid ((hmv.out false).below hk10)
                      obtain ⟨⟨u0, u1, u2, u3⟩, -⟩ := box4 hA11
                      obtain ⟨⟨z0, z1, z2, z3⟩, g0, g1, g2, g3⟩ := box4 hz11
                      clear cC hAs hzs hbs hmv hk10 hA hx hz hb x0 x1 x2 x3 y0' y1' y2' y3' fy2
                      by_cases hpz : pv = 0
                      · have HE : Hid (canE y0 yo yn y1 eo en d i = 0 ∧ canP s1 s2 false y0 yo yn y1 eo en d i = ⟨s1, s2, lateC false L, L⟩) := Lib.hid ⟨by rw [HC.out.1, hpz], by rw [HC.out.2, if_pos hpz]⟩
                        have HL8 : Hid (lateC false L = false) := Lib.hid (by simp [lateC, HR.out.1, HR.out.2])
                        have hfin : Below w.heap.size w ((((w10.setCell ⟨w.heap.size + 1, 0, none⟩ (.string s1)).setCell ⟨w.heap.size + 1, 1, none⟩ (.string s2)).setCell ⟨w.heap.size + 1, 2, none⟩ (.bool false)).setCell ⟨w.heap.size + 1, 3, none⟩ (.slice av L.length cv)) :=
                          (((hb11.setCell (p := ⟨w.heap.size + 1, 0, none⟩) (by simp) _).setCell (p := ⟨w.heap.size + 1, 1, none⟩) (by simp) _).setCell (p := ⟨w.heap.size + 1, 2, none⟩) (by simp) _).setCell (p := ⟨w.heap.size + 1, 3, none⟩) (by simp) _
                        have hmf := Lib.hid (hm11.out.set4 hz11 (.string s1) (.string s2) (.bool false) (.slice av L.length cv))
                        clear HC
                        subst hpz
                        go_wp2
                        refine bodyPost_ret (v := .tuple #[.agg #[.string s1, .string s2, .bool false, .slice av L.length cv], .int .i64 0]) (by simp [results, results55, go_sem, World.cell?_setCell_same, z0, z1, z2, z3]) rfl ⟨?_, hfin⟩
                        rw [HE.out.1, HE.out.2]
                        exact ⟨_, by rw [HL8.out], hmf.out⟩
                      · have hfin : Below w.heap.size w ((((w10.setCell ⟨w.heap.size + 1, 0, none⟩ (.string ⟨#[]⟩)).setCell ⟨w.heap.size + 1, 1, none⟩ (.string ⟨#[]⟩)).setCell ⟨w.heap.size + 1, 2, none⟩ (.bool false)).setCell ⟨w.heap.size + 1, 3, none⟩ (.slice none 0 0)) :=
                          (((hb11.setCell (p := ⟨w.heap.size + 1, 0, none⟩) (by simp) _).setCell (p := ⟨w.heap.size + 1, 1, none⟩) (by simp) _).setCell (p := ⟨w.heap.size + 1, 2, none⟩) (by simp) _).setCell (p := ⟨w.heap.size + 1, 3, none⟩) (by simp) _
                        go_wp2
                        refine bodyPost_ret (v := .tuple #[.agg #[.string ⟨#[]⟩, .string ⟨#[]⟩, .bool false, .slice none 0 0], .int .i64 pv]) (by simp [results, results55, go_sem, World.cell?_setCell_same, z0, z1, z2, z3]) rfl ⟨?_, hfin⟩
                        rw [HC.out.1, HC.out.2, if_neg hpz]
                        exact ⟨_, rfl, zero_is _⟩
                    | true =>
                      cases r with
                      | false =>
                        go_wp2_with fail
                        go_at_call 17
                        refine (cC false).mono ?_
                        rintro e w10 ⟨rfl, hk10⟩
                        have hA11 := (hAs false).below hk10 (hAs false).lt
                        have hz11 := (hzs false).below hk10 (hzs false).lt
                        have hb11 := (hbs false).trans (hk10.mono (hbs false).size)
                        have hm11 := Lib.hid ((hmv.out false).below hk10)
                        obtain ⟨⟨u0, u1, u2, u3⟩, -⟩ := box4 hA11
                        obtain ⟨⟨z0, z1, z2, z3⟩, g0, g1, g2, g3⟩ := box4 hz11
                        clear cC hAs hzs hbs hmv hk10 hA hx hz hb x0 x1 x2 x3 y0' y1' y2' y3' fy2
                        by_cases hpz : pv = 0
                        · have HE : Hid (canE y0 yo yn y1 eo en d i = 0 ∧ canP s1 s2 true y0 yo yn y1 eo en d i = ⟨s1, s2, lateC true L, L⟩) := Lib.hid ⟨by rw [HC.out.1, hpz], by rw [HC.out.2, if_pos hpz]⟩
                          have HL8 : Hid (lateC true L = false) := Lib.hid (by simp [lateC, HR.out.1, HR.out.2])
                          have hfin : Below w.heap.size w ((((w10.setCell ⟨w.heap.size + 1, 0, none⟩ (.string s1)).setCell ⟨w.heap.size + 1, 1, none⟩ (.string s2)).setCell ⟨w.heap.size + 1, 2, none⟩ (.bool false)).setCell ⟨w.heap.size + 1, 3, none⟩ (.slice av L.length cv)) :=
                            (((hb11.setCell (p := ⟨w.heap.size + 1, 0, none⟩) (by simp) _).setCell (p := ⟨w.heap.size + 1, 1, none⟩) (by simp) _).setCell (p := ⟨w.heap.size + 1, 2, none⟩) (by simp) _).setCell (p := ⟨w.heap.size + 1, 3, none⟩) (by simp) _
                          have hmf := Lib.hid (hm11.out.set4 hz11 (.string s1) (.string s2) (.bool false) (.slice av L.length cv))
                          clear HC
                          subst hpz
                          go_wp2
                          refine bodyPost_ret (v := .tuple #[.agg #[.string s1, .string s2, .bool false, .slice av L.length cv], .int .i64 0]) (by simp [results, results55, go_sem, World.cell?_setCell_same, z0, z1, z2, z3]) rfl ⟨?_, hfin⟩
                          rw [HE.out.1, HE.out.2]
                          exact ⟨_, by rw [HL8.out], hmf.out⟩
                        · have hfin : Below w.heap.size w ((((w10.setCell ⟨w.heap.size + 1, 0, none⟩ (.string ⟨#[]⟩)).setCell ⟨w.heap.size + 1, 1, none⟩ (.string ⟨#[]⟩)).setCell ⟨w.heap.size + 1, 2, none⟩ (.bool false)).setCell ⟨w.heap.size + 1, 3, none⟩ (.slice none 0 0)) :=
                            (((hb11.setCell (p := ⟨w.heap.size + 1, 0, none⟩) (by simp) _).setCell (p := ⟨w.heap.size + 1, 1, none⟩) (by simp) _).setCell (p := ⟨w.heap.size + 1, 2, none⟩) (by simp) _).setCell (p := ⟨w.heap.size + 1, 3, none⟩) (by simp) _
                          go_wp2
                          refine bodyPost_ret (v := .tuple #[.agg #[.string ⟨#[]⟩, .string ⟨#[]⟩, .bool false, .slice none 0 0], .int .i64 pv]) (by simp [results, results55, go_sem, World.cell?_setCell_same, z0, z1, z2, z3]) rfl ⟨?_, hfin⟩
                          rw [HC.out.1, HC.out.2, if_neg hpz]
                          exact ⟨_, rfl, zero_is _⟩
                      | true =>
                        cases p with
                        | false =>
                          go_wp2_with fail
                          go_at_call 17
                          refine (cC false).mono ?_
                          rintro e w10 ⟨rfl, hk10⟩
                          have hA11 := (hAs false).below hk10 (hAs false).lt
                          have hz11 := (hzs false).below hk10 (hzs false).lt
                          have hb11 := (hbs false).trans (hk10.mono (hbs false).size)
                          have hm11 := Lib.hid ((hmv.out false).below hk10)
                          obtain ⟨⟨u0, u1, u2, u3⟩, -⟩ := box4 hA11
                          obtain ⟨⟨z0, z1, z2, z3⟩, g0, g1, g2, g3⟩ := box4 hz11
                          clear cC hAs hzs hbs hmv hk10 hA hx hz hb x0 x1 x2 x3 y0' y1' y2' y3' fy2
                          by_cases hpz : pv = 0
                          · have HE : Hid (canE y0 yo yn y1 eo en d i = 0 ∧ canP s1 s2 true y0 yo yn y1 eo en d i = ⟨s1, s2, lateC true L, L⟩) := Lib.hid ⟨by rw [HC.out.1, hpz], by rw [HC.out.2, if_pos hpz]⟩
                            have HL8 : Hid (lateC true L = false) := Lib.hid (by simp [lateC, HR.out.1, HR.out.2])
                            have hfin : Below w.heap.size w ((((w10.setCell ⟨w.heap.size + 1, 0, none⟩ (.string s1)).setCell ⟨w.heap.size + 1, 1, none⟩ (.string s2)).setCell ⟨w.heap.size + 1, 2, none⟩ (.bool false)).setCell ⟨w.heap.size + 1, 3, none⟩ (.slice av L.length cv)) :=
                              (((hb11.setCell (p := ⟨w.heap.size + 1, 0, none⟩) (by simp) _).setCell (p := ⟨w.heap.size + 1, 1, none⟩) (by simp) _).setCell (p := ⟨w.heap.size + 1, 2, none⟩) (by simp) _).setCell (p := ⟨w.heap.size + 1, 3, none⟩) (by simp) _
                            have hmf := Lib.hid (hm11.out.set4 hz11 (.string s1) (.string s2) (.bool false) (.slice av L.length cv))
                            clear HC
                            subst hpz
                            go_wp2
                            refine bodyPost_ret (v := .tuple #[.agg #[.string s1, .string s2, .bool false, .slice av L.length cv], .int .i64 0]) (by simp [results, results55, go_sem, World.cell?_setCell_same, z0, z1, z2, z3]) rfl ⟨?_, hfin⟩
                            rw [HE.out.1, HE.out.2]
                            exact ⟨_, by rw [HL8.out], hmf.out⟩
                          · have hfin : Below w.heap.size w ((((w10.setCell ⟨w.heap.size + 1, 0, none⟩ (.string ⟨#[]⟩)).setCell ⟨w.heap.size + 1, 1, none⟩ (.string ⟨#[]⟩)).setCell ⟨w.heap.size + 1, 2, none⟩ (.bool false)).setCell ⟨w.heap.size + 1, 3, none⟩ (.slice none 0 0)) :=
                              (((hb11.setCell (p := ⟨w.heap.size + 1, 0, none⟩) (by simp) _).setCell (p := ⟨w.heap.size + 1, 1, none⟩) (by simp) _).setCell (p := ⟨w.heap.size + 1, 2, none⟩) (by simp) _).setCell (p := ⟨w.heap.size + 1, 3, none⟩) (by simp) _
                            go_wp2
                            refine bodyPost_ret (v := .tuple #[.agg #[.string ⟨#[]⟩, .string ⟨#[]⟩, .bool false, .slice none 0 0], .int .i64 pv]) (by simp [results, results55, go_sem, World.cell?_setCell_same, z0, z1, z2, z3]) rfl ⟨?_, hfin⟩
                            rw [HC.out.1, HC.out.2, if_neg hpz]
                            exact ⟨_, rfl, zero_is _⟩
                        | true =>
                          go_wp2_with fail
                          go_at_call 17
                          refine (cC true).mono ?_
                          rintro e w10 ⟨rfl, hk10⟩
                          have hA11 := (hAs true).below hk10 (hAs true).lt
                          have hz11 := (hzs true).below hk10 (hzs true).lt
                          have hb11 := (hbs true).trans (hk10.mono (hbs true).size)
                          have hm11 := Lib.hid ((hmv.out true).below hk10)
                          obtain ⟨⟨u0, u1, u2, u3⟩, -⟩ := box4 hA11
                          obtain ⟨⟨z0, z1, z2, z3⟩, g0, g1, g2, g3⟩ := box4 hz11
                          clear cC hAs hzs hbs hmv hk10 hA hx hz hb x0 x1 x2 x3 y0' y1' y2' y3' fy2
                          by_cases hpz : pv = 0
                          · have HE : Hid (canE y0 yo yn y1 eo en d i = 0 ∧ canP s1 s2 true y0 yo yn y1 eo en d i = ⟨s1, s2, lateC true L, L⟩) := Lib.hid ⟨by rw [HC.out.1, hpz], by rw [HC.out.2, if_pos hpz]⟩
                            have HL8 : Hid (lateC true L = true) := Lib.hid (by simp [lateC, HR.out.1, HR.out.2])
                            have hfin : Below w.heap.size w ((((w10.setCell ⟨w.heap.size + 1, 0, none⟩ (.string s1)).setCell ⟨w.heap.size + 1, 1, none⟩ (.string s2)).setCell ⟨w.heap.size + 1, 2, none⟩ (.bool true)).setCell ⟨w.heap.size + 1, 3, none⟩ (.slice av L.length cv)) :=
                              (((hb11.setCell (p := ⟨w.heap.size + 1, 0, none⟩) (by simp) _).setCell (p := ⟨w.heap.size + 1, 1, none⟩) (by simp) _).setCell (p := ⟨w.heap.size + 1, 2, none⟩) (by simp) _).setCell (p := ⟨w.heap.size + 1, 3, none⟩) (by simp) _
                            have hmf := Lib.hid (hm11.out.set4 hz11 (.string s1) (.string s2) (.bool true) (.slice av L.length cv))
                            clear HC
                            subst hpz
                            go_wp2
                            refine bodyPost_ret (v := .tuple #[.agg #[.string s1, .string s2, .bool true, .slice av L.length cv], .int .i64 0]) (by simp [results, results55, go_sem, World.cell?_setCell_same, z0, z1, z2, z3]) rfl ⟨?_, hfin⟩
                            rw [HE.out.1, HE.out.2]
                            exact ⟨_, by rw [HL8.out], hmf.out⟩
                          · have hfin : Below w.heap.size w ((((w10.setCell ⟨w.heap.size + 1, 0, none⟩ (.string ⟨#[]⟩)).setCell ⟨w.heap.size + 1, 1, none⟩ (.string ⟨#[]⟩)).setCell ⟨w.heap.size + 1, 2, none⟩ (.bool false)).setCell ⟨w.heap.size + 1, 3, none⟩ (.slice none 0 0)) :=
                              (((hb11.setCell (p := ⟨w.heap.size + 1, 0, none⟩) (by simp) _).setCell (p := ⟨w.heap.size + 1, 1, none⟩) (by simp) _).setCell (p := ⟨w.heap.size + 1, 2, none⟩) (by simp) _).setCell (p := ⟨w.heap.size + 1, 3, none⟩) (by simp) _
                            go_wp2
                            refine bodyPost_ret (v := .tuple #[.agg #[.string ⟨#[]⟩, .string ⟨#[]⟩, .bool false, .slice none 0 0], .int .i64 pv]) (by simp [results, results55, go_sem, World.cell?_setCell_same, z0, z1, z2, z3]) rfl ⟨?_, hfin⟩
                            rw [HC.out.1, HC.out.2, if_neg hpz]
                            exact ⟨_, rfl, zero_is _⟩
end
end Go.Proofs.Tryz
