/- The season's map of totals: a line added: by the kit's walk. The season's map of totals: the lines of games added: by the kit's walk. The season's list of a map of totals, up to the sort: by the kit's walk. -/
import Derived.Test.YtbfonnoebbjenaaGreatDoorAxTi
import Derived.Test.YtbfonnoebbjenaaGreatDoorAxK
import Derived.Handy
namespace Go.Proofs.Tryz
open Go Go.Am Go.RowKit Go.Op Go.Maps Go.WideMaps
set_option maxRecDepth 100000

/-- A total's value, held as it is. -/
noncomputable def HeldV (v : Value) : Option (DataW Value × List MemPlace) := open Classical in if ∃ t : Tot, v = .agg t.arr then some (.held v, []) else none
theorem held_tot (t : Tot) : HeldV (.agg t.arr) = some (.held (.agg t.arr), []) := if_pos ⟨t, rfl⟩
theorem held_inv {v : Value} {y : DataW Value × List MemPlace} (h : HeldV v = some y) : ∃ t : Tot, v = .agg t.arr ∧ y = (.held (.agg t.arr), []) := by
  unfold HeldV at h
  split at h
  · rename_i hq
    obtain ⟨t, rfl⟩ := hq
    exact ⟨t, rfl, (Option.some.inj h).symm⟩
  · cases h
/-- The map reads as the list. -/
def SpecD (D : DataW Value) (L : List Tot) : Prop := IsMap D ∧ ∀ p z, D.atKey (.string p) z = match getT p L with | some t => .held (.agg t.arr) | none => z
def MapT (w : World) (b : Nat) (L : List Tot) : Prop := ∃ k D, w.ownsMap prog 9 HeldV b k D ∧ k ≤ 100000 ∧ SpecD D L
def MapK (w : World) (b k : Nat) (L : List Tot) : Prop := ∃ D, w.ownsMap prog 9 HeldV b k D ∧ SpecD D L
theorem MapK.below {w W : World} {b k : Nat} {L : List Tot} (h : MapK w b k L) (hb : Below w.heap.size w W) : MapK W b k L :=
  let ⟨D, h1, h2⟩ := h; ⟨D, h1.kept (row := none) ⟨hb.os, hb.tape, hb.output, hb.size, fun k hk _ => hb.block k hk⟩ (by simp), h2⟩
theorem MapK.setCell {w : World} {b k : Nat} {L : List Tot} (h : MapK w b k L) {g : Nat} (hg : ¬ (g = b)) (j : Nat) (u : Value) : MapK (w.setCell ⟨g, j, none⟩ u) b k L :=
  let ⟨D, h1, h2⟩ := h; ⟨D, h1.kept (row := some g) ⟨rfl, rfl, rfl, by simp, fun k _ hk => Below.heap_setCell _ _ _ _ (fun e => hk (by rw [e]))⟩ (fun e => hg (by cases e; rfl)), h2⟩
theorem below_grown {w w' w'' : World} {row : Option Nat} (h : Below w.heap.size w w') (hg : w'.grownBy w'' row) : w.grownBy w'' row :=
  ⟨hg.os.trans h.os, hg.tape.trans h.tape, hg.output.trans h.output, Nat.le_trans h.size hg.size, fun i hi hne => (hg.block i (Nat.lt_of_lt_of_le hi h.size) hne).trans (h.block i hi)⟩
theorem MapK.lt {w : World} {b k : Nat} {L : List Tot} (h : MapK w b k L) : b < w.heap.size := let ⟨_, h1, _⟩ := h; h1.lt
theorem SpecD.nil : SpecD (.map []) [] := ⟨isMap_empty, fun _ _ => rfl⟩
theorem SpecD.ins {D : DataW Value} {L : List Tot} (h : SpecD D L) (hs : SortT L) (s : Int) (d : Tot) : SpecD (D.put (.string d.p) (.held (.agg (addT ((getT d.p L).getD (zeroT d.p)) s d).arr))) (insT s d L) := by
  refine ⟨h.1.put _ _, fun p z => ?_⟩
  by_cases hp : p = d.p
  · subst hp
    rw [atKey_put_same h.1 (by first | exact trivial | simp [WideAt.IsKeyLit]), getT_ins_same hs]
  · rw [atKey_put_other (by intro e; apply hp; injection e with e), getT_ins_other hp, h.2]
theorem zero66 (w : World) : (zeroValue 66).run prog w = .ok (.agg (zeroT []).arr) w := by kernel_rfl
theorem map_look {L : List Tot} {b k : Nat} {W : World} (h : MapK W b k L) {p : List UInt8} (hn : p.length ≤ maxLen) :
    (Instr.lookup 153 (.map (some b)) (.string (bA p)) false).run prog W = .ok (.agg ((getT p L).getD (zeroT [])).arr) W := by
  obtain ⟨D, h1, h2⟩ := h
  have hkey : keyOf prog 9 (.string (bA p)) = some (.string p) := by
    rw [keyOf_string_mk (by kernel_rfl) (by rw [bA_size]; exact hn)]; rfl
  obtain ⟨v, ps, hrun, hv⟩ := h1.lookup (t := 153) (e := 66) (string_keyed (by kernel_rfl)) (by kernel_rfl) (zero66 W) (zd := .held (.agg (zeroT []).arr)) (zp := []) (held_tot _) hkey
  rw [h2.2] at hv
  rw [hrun]
  obtain ⟨t, rfl, e⟩ := held_inv hv
  simp only [Prod.mk.injEq] at e
  cases hg : getT p L with
  | none => rw [hg] at e; simp only [DataW.held.injEq] at e; rw [← e.1]; rfl
  | some t => rw [hg] at e; simp only [DataW.held.injEq] at e; rw [← e.1]; rfl
theorem tot_set (p : List UInt8) (G : Int) (f : Nat → Int) {j : Nat} (hj : j < 12) (x : Int) : (⟨p, G, f⟩ : Tot).cells.toArray.setIfInBounds (2 + j) (.int .i64 x) = (⟨p, G, fun i => if i = j then x else f i⟩ : Tot).cells.toArray := by
  have h := ints_set f hj x
  apply Array.ext'
  have h2 := congrArg Array.toList h
  simp only [List.setIfInBounds_toArray, List.toList_toArray] at h2 ⊢
  unfold Tot.cells
  rw [show 2 + j = j + 1 + 1 by omega, List.set_cons_succ, List.set_cons_succ, h2]
theorem tot_at {w : World} {b e : Nat} {t : Tot} (h : At w b t.cells.toArray e) {j : Nat} (hj : j < 12) : w.cell? ⟨b, 2 + j, none⟩ = some (.int .i64 (t.c j)) ∧ w.frozen? ⟨b, 2 + j, none⟩ = false := by
  unfold At at h
  constructor
  · unfold World.cell?
    rw [h]
    have : t.cells[2 + j]? = some (.int .i64 (t.c j)) := by rw [Nat.add_comm]; exact ints_get hj
    simpa using this
  · unfold World.frozen?
    rw [h]
    simp
theorem tot_congr {p : List UInt8} {G : Int} {f g : Nat → Int} (h : ∀ i, i < 12 → f i = g i) : (⟨p, G, f⟩ : Tot).cells = (⟨p, G, g⟩ : Tot).cells := by
  unfold Tot.cells
  rw [ints_congr h]

set_option maxHeartbeats 6400000 in
theorem add_w {L : List Tot} {w : World} {b k : Nat} (h : MapK w b k L) (hk : k ≤ 100000) (hsort : SortT L) (p : List UInt8) (hp : p.length ≤ 1000) (gm : Int) (c : Nat → Int) (s : Int) (hs : s = 1 ∨ s = -1) (hd : SmallT ⟨p, gm, c⟩) (hL : ∀ t ∈ L, SmallT t) :
    Calls prog 130 #[.map (some b), .string (bA p), .int .i64 gm, .agg #[.int .i64 (c 0), .int .i64 (c 1), .int .i64 (c 2), .int .i64 (c 3), .int .i64 (c 4), .int .i64 (c 5), .int .i64 (c 6), .int .i64 (c 7), .int .i64 (c 8), .int .i64 (c 9), .int .i64 (c 10), .int .i64 (c 11)], .int .i64 s] w fun e w' => e = .returned (.tuple #[]) ∧ MapK w' b (k + 1) (insT s ⟨p, gm, c⟩ L) ∧ w.grownBy w' (some b) := by
  obtain ⟨tt, htt⟩ : ∃ x, (getT p L).getD (zeroT []) = x := ⟨_, rfl⟩
  have hst : SmallT tt := by
    rw [← htt]
    cases hg : getT p L with
    | none => exact ⟨by simp only [Option.getD_none, zeroT]; omega, fun i _ => by simp only [Option.getD_none, zeroT]; omega⟩
    | some t => exact hL t (getT_some hg).1
  have hlook := fun W (hW : MapK W b k L) => map_look hW (p := p) (Nat.le_trans hp (by decide))
  rw [htt] at hlook
  have HFin : Hid ((addT ((getT p L).getD (zeroT p)) s ⟨p, gm, c⟩).arr = (⟨p, tt.gm + s * gm, fun i => tt.c i + s * c i⟩ : Tot).arr) := Lib.hid (by
    rw [← htt]
    cases hg : getT p L with
    | none => rfl
    | some t => have := (getT_some hg).2; simp only [Option.getD_some, addT]; rw [this])
  have hb1 : Below w.heap.size w (w.alloc (.cells (ints 12 c).toArray 54)) := (Below.refl _ _).alloc (Nat.le_refl _) _
  have hx := at_new w (ints 12 c).toArray 54
  have hm1 := h.below hb1
  have hb2 := hb1.alloc hb1.size (.cells tt.arr 66)
  have hx2 := hx.alloc (.cells tt.arr 66)
  have hm2 := h.below hb2
  obtain ⟨W1, hW1⟩ : ∃ W1, w.alloc (.cells (ints 12 c).toArray 54) = W1 := ⟨_, rfl⟩
  rw [hW1] at hm1 hb2 hx2 hm2 hb1
  have hy := at_new W1 tt.arr 66
  have hne : ¬ (w.heap.size = W1.heap.size) := by rw [← hW1]; simp
  have hne2 : ¬ (W1.heap.size = w.heap.size) := fun e => hne e.symm
  obtain ⟨W2, hW2⟩ : ∃ W2, W1.alloc (.cells tt.arr 66) = W2 := ⟨_, rfl⟩
  rw [hW2] at hb2 hx2 hy hm2
  rw [show (ints 12 c).toArray = #[.int .i64 (c 0), .int .i64 (c 1), .int .i64 (c 2), .int .i64 (c 3), .int .i64 (c 4), .int .i64 (c 5), .int .i64 (c 6), .int .i64 (c 7), .int .i64 (c 8), .int .i64 (c 9), .int .i64 (c 10), .int .i64 (c 11)] from rfl] at hW1
  have hl1 := hlook W1 hm1
  unfold Tot.arr at hW2 hl1
  obtain ⟨r1, r2⟩ := inI_wrap (small_in hs hst.1 hd.1).1
  obtain ⟨r3, r4⟩ := inI_wrap (small_in hs hst.1 hd.1).2
  have HRC := Lib.hid (fun i (hi : i < 12) => small_in hs (hst.2 i hi) (hd.2 i hi))
  have hbb := h.lt
  have hbW : ¬ (W1.heap.size = b) := by rw [← hW1]; simp; omega
  have hszb : w.heap.size ≤ W1.heap.size := hb1.size
  obtain ⟨y0, y1, -⟩ := box14t hy
  have g0 : W2.frozen? ⟨W1.heap.size, 0, none⟩ = false := by unfold At at hy; unfold World.frozen?; rw [hy]; simp
  have g1 : W2.frozen? ⟨W1.heap.size, 1, none⟩ = false := by unfold At at hy; unfold World.frozen?; rw [hy]; simp
  have hx2' : At W2 w.heap.size #[.int .i64 (c 0), .int .i64 (c 1), .int .i64 (c 2), .int .i64 (c 3), .int .i64 (c 4), .int .i64 (c 5), .int .i64 (c 6), .int .i64 (c 7), .int .i64 (c 8), .int .i64 (c 9), .int .i64 (c 10), .int .i64 (c 11)] 54 := hx2
  obtain ⟨⟨x0, x1, x2, x3, x4, x5, x6, x7, x8, x9, x10, x11⟩, -⟩ := box12 hx2'
  have hy1 : At ((W2.setCell ⟨W1.heap.size, 0, none⟩ (.string (bA p))).setCell ⟨W1.heap.size, 1, none⟩ (.int .i64 (tt.gm + s * gm))) W1.heap.size (⟨p, tt.gm + s * gm, fun i => if i < 0 then tt.c i + s * c i else tt.c i⟩ : Tot).cells.toArray 66 := by
    rw [tot_congr (g := tt.c) (fun i _ => by rw [if_neg (Nat.not_lt_zero _)])]
    exact (hy.set 0 _).set 1 _
  have hm3 : MapK ((W2.setCell ⟨W1.heap.size, 0, none⟩ (.string (bA p))).setCell ⟨W1.heap.size, 1, none⟩ (.int .i64 (tt.gm + s * gm))) b k L := (hm2.setCell hbW _ _).setCell hbW _ _
  have hb3 := (hb2.setCell (p := ⟨W1.heap.size, 0, none⟩) hszb (.string (bA p))).setCell (p := ⟨W1.heap.size, 1, none⟩) hszb (.int .i64 (tt.gm + s * gm))
  clear hlook hx hm1 hb1 hst hd hL htt hx2 hx2' hy hm2 hb2
  go_enter func130, ntmps130
  go_wp2_with fail
  try rw [hW2]
  clear hW1 hW2 x0 x1 x2 x3 x4 x5 x6 x7 x8 x9 x10 x11 y0 y1 g0 g1 hl1 r1 r2 r3 r4
  go_loopw [26] (fun t wr => ∃ j : Nat, j ≤ 12 ∧ t = .int .i64 j ∧ At wr W1.heap.size (⟨p, tt.gm + s * gm, fun i => if i < j then tt.c i + s * c i else tt.c i⟩ : Tot).cells.toArray 66 ∧ MapK wr b k L ∧ Below w.heap.size w wr) (fun t _ => 12 - (numOf' t).toNat)
  case atStart => exact ⟨0, Nat.zero_le _, rfl, hy1, hm3, hb3⟩
  case round =>
    clear hy1 hm3 hb3
    obtain ⟨j, hj, rfl, hy, hm, hb⟩ := hrel
    by_cases hj12 : j < 12
    · have cj := run_idx12 c hj12
      obtain ⟨y0, g0⟩ := tot_at hy hj12
      simp only [Nat.lt_irrefl, if_false] at y0
      obtain ⟨r1, r2⟩ := inI_wrap (HRC.out j hj12).1
      obtain ⟨r3, r4⟩ := inI_wrap (HRC.out j hj12).2
      have hjj : (j : Int) < 12 := by omega
      have hy9 : At (wr.setCell ⟨W1.heap.size, 2 + j, none⟩ (.int .i64 (tt.c j + s * c j))) W1.heap.size (⟨p, tt.gm + s * gm, fun i => if i < j + 1 then tt.c i + s * c i else tt.c i⟩ : Tot).cells.toArray 66 := by
        have := hy.set (2 + j) (.int .i64 (tt.c j + s * c j))
        rw [tot_set _ _ _ hj12] at this
        rw [tot_congr (g := fun i => if i = j then tt.c j + s * c j else if i < j then tt.c i + s * c i else tt.c i) (fun i _ => by
          by_cases h : i = j
          · subst h; rw [if_pos (Nat.lt_succ_self _), if_pos rfl]
          · rw [if_neg h]
            by_cases h2 : i < j
            · rw [if_pos (by omega), if_pos h2]
            · rw [if_neg (by omega), if_neg h2])]
        exact this
      have hm9 := hm.setCell hbW (2 + j) (.int .i64 (tt.c j + s * c j))
      have hb9 := hb.setCell (p := ⟨W1.heap.size, 2 + j, none⟩) hszb (.int .i64 (tt.c j + s * c j))
      clear hy hm hb
      go_wp2_with fail
      go_roundw
      case rel => exact ⟨j + 1, by omega, by go_num, hy9, hm9, hb9⟩
      case measure => simp [numOf'] <;> omega
    · obtain rfl : j = 12 := by omega
      rw [tot_congr (g := fun i => tt.c i + s * c i) (fun i hi => by rw [if_pos hi]), Tot.arr_eq, ← HFin.out] at hy
      have hkl : keyOf prog 9 (.string (bA p)) = some (.string p) := by
        rw [keyOf_string_mk (by kernel_rfl) (by rw [bA_size]; exact Nat.le_trans hp (by decide))]; rfl
      obtain ⟨D, hown, hD⟩ := hm
      have hins := hD.ins hsort s ⟨p, gm, c⟩
      obtain ⟨F, hF⟩ : ∃ F : Tot, (addT ((getT p L).getD (zeroT p)) s ⟨p, gm, c⟩) = F := ⟨_, rfl⟩
      simp only at hins
      rw [hF] at hins hy
      obtain ⟨y0, y1, y2, y3, y4, y5, y6, y7, y8, y9, y10, y11, y12, y13⟩ := box14t hy
      have Hkl := Lib.hid hkl
      have Hown := Lib.hid hown
      have HF := Lib.hid hF
      clear HFin HRC hkl hown hy hF hD
      go_wp2_with (first
        | (at_mapUpdate; refine wpList_mapUpdate_own _ rfl _ _ _ 153 rfl 9 66 (string_keyed (by kernel_rfl)) (by kernel_rfl) _ b k _ rfl Hown.out (by unfold maxLen; omega) _ _ _ rfl rfl Hkl.out (.held (.agg F.arr)) [] (held_tot F) ?_; intro w1 hown1 hgrow1; go_frame)
        | fail)
      go_end0
      exact ⟨rfl, ⟨_, hown1, hins⟩, below_grown hb hgrow1⟩
end Go.Proofs.Tryz

namespace Go.Proofs.Tryz
open Go Go.Am Go.RowKit Go.Op Go.Maps Go.WideMaps
set_option maxRecDepth 100000

theorem map_no_cell {w : World} {b k : Nat} {L : List Tot} (h : MapK w b k L) (o : Nat) : w.cell? ⟨b, o, none⟩ = none := by
  obtain ⟨D, ⟨es, clock, hb, -⟩, -⟩ := h
  unfold World.cell?
  rw [hb]
theorem Row.grownM {w w' : World} {b k : Nat} {L : List Tot} (hm : MapK w b k L) (hg : w.grownBy w' (some b)) {v : Value} {m n : Nat} {f : Nat → List Value} (h : Row w v m n f) : Row w' v m n f := by
  obtain ⟨a, c, rfl, h1, h2⟩ := h
  refine ⟨a, c, rfl, h1, fun h0 => ?_⟩
  obtain ⟨b2, off, e, h3⟩ := h2 h0
  refine ⟨b2, off, e, fun i hi j u hu => hg.cell (h3 i hi j u hu) (fun q => ?_)⟩
  simp only [Option.some.injEq] at q
  have := h3 i hi j u hu
  rw [q, map_no_cell hm] at this
  cases this
theorem grown_trans {a c d : World} {g : Option Nat} (h : a.grownBy c g) (k : c.grownBy d g) : a.grownBy d g :=
  ⟨k.os.trans h.os, k.tape.trans h.tape, k.output.trans h.output, Nat.le_trans h.size k.size, fun i hi hne => (k.block i (Nat.lt_of_lt_of_le hi h.size) hne).trans (h.block i hi hne)⟩
theorem grown_below {w w' w'' : World} {g : Option Nat} (h : w.grownBy w' g) (hb : Below w'.heap.size w' w'') : w.grownBy w'' g :=
  ⟨hb.os.trans h.os, hb.tape.trans h.tape, hb.output.trans h.output, Nat.le_trans h.size hb.size, fun i hi hne => (hb.block i (Nat.lt_of_lt_of_le hi h.size)).trans (h.block i hi hne)⟩
theorem IsGames.grownM {w w' : World} {b k : Nat} {L : List Tot} (hm : MapK w b k L) (hg : w.grownBy w' (some b)) {v : Value} {n : Nat} {g : Nat → GmD} (h : IsGames w v g n) : IsGames w' v g n :=
  let ⟨lv, h1, h2⟩ := h; ⟨lv, Row.grownM hm hg h1, fun i hi => Row.grownM hm hg (h2 i hi)⟩

set_option maxHeartbeats 6400000 in
theorem addGames_w {L : List Tot} {gv : Value} {w : World} {b k n m : Nat} {g : Nat → GmD} (hg : IsGames w gv g n) (hn : n ≤ 66) (hk : ∀ i, i < n → (g i).k ≤ 62 ∧ ∀ j, j < (g i).k → LineOk ((g i).l j) ∧ ((g i).l j).p.length ≤ 1000)
    (hM : MapK w b k L) (hkm : k ≤ m) (hI : InvT m L) (hm : m ≤ 5000) (s : Int) (hs : s = 1 ∨ s = -1) :
    Calls prog 86 #[.map (some b), gv, .int .i64 s] w fun e w' => e = .returned (.tuple #[]) ∧ (∃ k', k' ≤ m + n * 62 ∧ MapK w' b k' (gamT s g 0 n L) ∧ InvT (m + n * 62) (gamT s g 0 n L)) ∧ w.grownBy w' (some b) := by
  have hg0 := hg
  obtain ⟨lv0, hr, -⟩ := hg0
  obtain ⟨ad, c, rfl, hnc⟩ := hr.slice
  clear hr
  obtain ⟨R, hR⟩ : ∃ R, gamT s g 0 n L = R := ⟨_, rfl⟩
  rw [hR]
  have HR : Hid (R = gamT s g 0 (n - 0) L) := Lib.hid hR.symm
  have HK := Lib.hid (And.intro hk hs)
  have hI0 : InvT (m + 0 * 62) L := hI.mono (by omega)
  have HM := Lib.hid hM
  have hk0 : k ≤ m + 0 * 62 := by omega
  clear hR hk hs hI hkm
  go_enter func86, ntmps86
  go_wp2_with fail
  go_loopw [12] (fun t wr => ∃ (i kk : Nat) (Lc : List Tot), i ≤ n ∧ t = .int .i64 i ∧ MapK wr b kk Lc ∧ kk ≤ m + i * 62 ∧ Hid (R = gamT s g i (n - i) Lc) ∧ InvT (m + i * 62) Lc ∧ w.grownBy wr (some b)) (fun t _ => n - (numOf' t).toNat)
  case atStart => exact ⟨0, k, L, Nat.zero_le _, rfl, hM, hk0, HR, hI0, World.grownBy.refl _ _⟩
  case round =>
    clear HR hI0 hM hk0
    obtain ⟨i, kk, Lc, hi, rfl, hl, hkk, hE, hIc, hgr⟩ := hrel
    by_cases hin : i < n
    · have hgB := hg.grownM HM.out hgr
      obtain ⟨bb, off, c1, a1, kc, e, -, hli, p0, p1, p2, p3, p4, p5, p6, p7⟩ := hgB.at hin
      simp only [Value.slice.injEq, true_and] at e
      obtain ⟨rfl, rfl⟩ := e
      have hii : (i : Int) < (n : Int) := by omega
      have hki := HK.out.1 i hin
      have hs := hE.out
      rw [show n - i = (n - (i + 1)) + 1 by omega, gamT] at hs
      have HE2 : Hid (R = gamT s g (i + 1) (n - (i + 1)) (linT s (g i).l 0 ((g i).k - 0) Lc)) := Lib.hid hs
      have hI1 : InvT (m + i * 62 + 0) Lc := hIc
      have HKI := Lib.hid hki.2
      have hk62 := hki.1
      have hb1 : Below wr.heap.size wr (wr.alloc (.cells ((g i).arr (.slice a1 (g i).k kc)) 110)) := (Below.refl _ _).alloc (Nat.le_refl _) _
      have hx1 := at_new wr ((g i).arr (.slice a1 (g i).k kc)) 110
      obtain ⟨W1, hW1⟩ : ∃ W1, wr.alloc (.cells ((g i).arr (.slice a1 (g i).k kc)) 110) = W1 := ⟨_, rfl⟩
      rw [hW1] at hb1 hx1
      have hl1 := hl.below hb1
      have hgr1 : w.grownBy W1 (some b) := grown_below hgr hb1
      have hli1 := hli.below hb1
      have hk1 : kk ≤ m + i * 62 + 0 := hkk
      unfold GmD.arr at hW1 hx1
      obtain ⟨⟨x0, x1, x2, x3, x4, x5, x6, x7⟩, -⟩ := box8 hx1
      clear hs hE hki hIc hgB hl hgr hli hb1 hkk
      go_wp2_with fail
      try rw [hW1]
      clear hW1 p0 p1 p2 p3 p4 p5 p6 p7 x0 x1 x2 x3 x4 x5 x6 x7 hx1
      have HLI := Lib.hid hli1
      have HW1 := Lib.hid hl1
      go_loopw [19] (fun t wx => ∃ (j kj : Nat) (Ld : List Tot), j ≤ (g i).k ∧ t = .int .i64 j ∧ MapK wx b kj Ld ∧ kj ≤ m + i * 62 + j ∧ Hid (R = gamT s g (i + 1) (n - (i + 1)) (linT s (g i).l j ((g i).k - j) Ld)) ∧ InvT (m + i * 62 + j) Ld ∧ w.grownBy wx (some b) ∧ W1.grownBy wx (some b)) (fun t _ => (g i).k - (numOf' t).toNat)
      case atStart => exact ⟨0, kk, Lc, Nat.zero_le _, rfl, hl1, hk1, HE2, hI1, hgr1, World.grownBy.refl _ _⟩
      case round =>
        clear HE2 hI1 hl1 hgr1 hli1 hk1
        obtain ⟨j, kj, Ld, hj, rfl, hl, hkj, hE, hIc, hgr, hgr1⟩ := hrel
        by_cases hjk : j < (g i).k
        · obtain ⟨b2, off2, c2, e2, hk2, q0, q1, qc⟩ := (show IsLines _ _ _ _ from Row.grownM HW1.out hgr1 HLI.out).at hjk
          simp only [Value.slice.injEq, true_and] at e2
          obtain ⟨rfl, rfl⟩ := e2
          have hc0 := qc 0 (by omega)
          have hc1 := qc 1 (by omega)
          have hc2 := qc 2 (by omega)
          have hc3 := qc 3 (by omega)
          have hc4 := qc 4 (by omega)
          have hc5 := qc 5 (by omega)
          have hc6 := qc 6 (by omega)
          have hc7 := qc 7 (by omega)
          have hc8 := qc 8 (by omega)
          have hc9 := qc 9 (by omega)
          have hc10 := qc 10 (by omega)
          have hc11 := qc 11 (by omega)
          simp only [Nat.reduceAdd] at hc0 hc1 hc2 hc3 hc4 hc5 hc6 hc7 hc8 hc9 hc10 hc11
          have hjj : (j : Int) < ((g i).k : Int) := by omega
          have hok := HKI.out j hjk
          have hs := hE.out
          rw [show (g i).k - j = ((g i).k - (j + 1)) + 1 by omega, linT] at hs
          have HE2 := Lib.hid hs
          have hI2 : InvT (m + i * 62 + (j + 1)) (insT s (totOf ((g i).l j)) Ld) := hIc.ins HK.out.2 hok.1
          have him : m + i * 62 + j ≤ 10000 := by
            have : i * 62 ≤ 66 * 62 := Nat.mul_le_mul_right _ (by omega)
            omega
          have hb5 : Below wr.heap.size wr (wr.alloc (.cells ((g i).l j).arr 132)) := (Below.refl _ _).alloc (Nat.le_refl _) _
          have hz5 := at_new wr ((g i).l j).arr 132
          obtain ⟨W5, hW5⟩ : ∃ W5, wr.alloc (.cells ((g i).l j).arr 132) = W5 := ⟨_, rfl⟩
          rw [hW5] at hb5 hz5
          obtain ⟨z0, z1, z2, z3, z4, z5, z6, z7, z8, z9, z10, z11, z12, z13⟩ := box14 hz5
          have cS := add_w (hl.below hb5) (Nat.le_trans hkj (Nat.le_trans him (by decide))) hIc.1 ((g i).l j).p hok.2 1 ((g i).l j).c s HK.out.2 hok.1.small (hIc.small (by omega))
          have hgr5 := grown_below hgr hb5
          have hgr15 := grown_below hgr1 hb5
          unfold LnD.arr at hW5
          clear qc hs hE hl hIc hok him hgr hgr1 hb5 hz5
          go_wp2_with fail
          try rw [hW5]
          clear hW5 q0 q1 hc0 hc1 hc2 hc3 hc4 hc5 hc6 hc7 hc8 hc9 hc10 hc11 z0 z1 z2 z3 z4 z5 z6 z7 z8 z9 z10 z11 z12 z13
          go_at_call 130
          refine cS.mono ?_
          rintro e W6 ⟨rfl, hm6, hg6⟩
          have hgr6 := grown_trans hgr5 hg6
          have hgr16 := grown_trans hgr15 hg6
          clear cS hg6 hgr5 hgr15
          go_wp2_with fail
          go_roundw
          case rel => exact ⟨j + 1, _, _, by omega, by go_num, hm6, by omega, HE2, hI2, hgr6, hgr16⟩
          case measure => simp [numOf'] <;> omega
        · obtain rfl : j = (g i).k := by omega
          have hE2 : Hid (R = gamT s g (i + 1) (n - (i + 1)) Ld) := Lib.hid (by rw [hE.out, Nat.sub_self, linT])
          have hI2 : InvT (m + (i + 1) * 62) Ld := hIc.mono (by rw [Nat.add_mul]; omega)
          have hk2 : kj ≤ m + (i + 1) * 62 := by rw [Nat.add_mul]; omega
          clear hE hIc
          go_wp2_with fail
          go_roundw
          case rel => exact ⟨i + 1, kj, Ld, by omega, by go_num, hl, hk2, hE2, hI2, hgr⟩
          case measure => simp [numOf'] <;> omega
    · obtain rfl : i = n := by omega
      have hl2 : R = Lc := by rw [hE.out, Nat.sub_self, gamT]
      have hfin : ∃ k', k' ≤ m + i * 62 ∧ MapK wr b k' R ∧ InvT (m + i * 62) R := by rw [hl2]; exact ⟨kk, hkk, hl, hIc⟩
      clear hl hE hIc hl2
      go_wp2_with fail
      go_end0
      exact ⟨rfl, hfin, hgr⟩
end Go.Proofs.Tryz

namespace Go.Proofs.Tryz
open Go Go.Am Go.RowKit Go.Op Go.Maps Go.WideMaps
set_option maxRecDepth 100000

theorem invK9 : ∀ key kl, keyOf prog 9 key = some kl → ∃ x : List UInt8, key = .string (bA x) := fun key kl h => by
  cases key <;> simp [keyOf, underlying9, mapKey] at h
  rename_i s
  exact ⟨s.data.toList, by rw [bA_data]⟩
theorem key9 {x : List UInt8} {kl : Lit} (h : keyOf prog 9 (.string (bA x)) = some kl) : kl = .string x := by
  simp [keyOf, underlying9, mapKey] at h
  exact h.2.symm
theorem invV9 : ∀ v y, HeldV v = some y → ∃ c : Tot, v = .agg c.arr := fun _ _ h => let ⟨t, e, _⟩ := held_inv h; ⟨t, e⟩
/-- What has been collected so far. -/
structure GoodL (L : List Tot) (left : Lit → Bool) (Lo : List Tot) : Prop where
  nodup : Lo.Pairwise fun a b => a.p ≠ b.p
  mem : ∀ t, t ∈ Lo ↔ (t ∈ L ∧ nzT t = true ∧ left (.string t.p) = false)
  len : Lo.length ≤ L.length
theorem spec_has {D : DataW Value} {L : List Tot} (h : SpecD D L) (hs : SortT L) {t : Tot} (ht : t ∈ L) : Maps.has D (.string t.p) = true :=
  has_true_of_atKey (y := .held (.agg t.arr)) fun z => by rw [h.2, hs.get ht]
theorem spec_at {D : DataW Value} {L : List Tot} (h : SpecD D L) {p : List UInt8} {t : Tot} (hat : ∀ z, D.atKey (.string p) z = .held (.agg t.arr)) : ∃ t', t' ∈ L ∧ t'.p = p ∧ t'.arr = t.arr := by
  have h1 := hat .nil
  rw [h.2] at h1
  cases hg : getT p L with
  | none => rw [hg] at h1; cases h1
  | some t' =>
    rw [hg] at h1
    simp only [DataW.held.injEq, Value.agg.injEq] at h1
    exact ⟨t', (getT_some hg).1, (getT_some hg).2, h1⟩
theorem same_lit (a b : List UInt8) : (Lit.string a).sameKey (.string b) = decide (a = b) := by
  by_cases h : a = b
  · subst h; rw [decide_eq_true rfl]; exact WideAt.sameKey_self (by first | exact trivial | simp [WideAt.IsKeyLit])
  · rw [decide_eq_false h]; exact sameKey_ne (fun e => h (by injection e))
theorem GoodL.skip {L Lo : List Tot} {left : Lit → Bool} (h : GoodL L left Lo) (hs : SortT L) {t : Tot} (ht : t ∈ L) (hz : nzT t = false) : GoodL L (fun z => left z && !z.sameKey (.string t.p)) Lo := by
  refine ⟨h.nodup, fun x => ?_, h.len⟩
  rw [h.mem x]
  constructor
  · rintro ⟨a, b, c⟩; exact ⟨a, b, by simp [c]⟩
  · rintro ⟨a, b, c⟩
    refine ⟨a, b, ?_⟩
    simp only [same_lit, Bool.and_eq_false_iff, Bool.not_eq_false', decide_eq_true_eq] at c
    rcases c with c | c
    · exact c
    · have e1 := hs.get a
      have e2 := hs.get ht
      rw [c] at e1
      rw [e1] at e2
      cases e2
      rw [b] at hz; cases hz
theorem pairwise_len : ∀ {Lo L : List Tot}, (Lo.Pairwise fun a b => a.p ≠ b.p) → (∀ t ∈ Lo, t ∈ L) → Lo.length ≤ L.length
  | [], _, _, _ => Nat.zero_le _
  | x :: r, L, h, hm => by
    obtain ⟨h1, h2⟩ := List.pairwise_cons.1 h
    obtain ⟨A, B, rfl⟩ := List.append_of_mem (hm x (by simp))
    have ih := pairwise_len (L := A ++ B) h2 fun t ht => by
      have := hm t (by simp [ht])
      have hne : t ≠ x := fun e => h1 t ht (by rw [e])
      simp only [List.mem_append, List.mem_cons] at this ⊢
      rcases this with q | q | q
      · exact .inl q
      · exact absurd q hne
      · exact .inr q
    simp only [List.length_append, List.length_cons] at ih ⊢
    omega
theorem GoodL.more {L Lo : List Tot} {left : Lit → Bool} (h : GoodL L left Lo) (hs : SortT L) {t : Tot} (ht : t ∈ L) (hz : nzT t = true) (hl : left (.string t.p) = true) : GoodL L (fun z => left z && !z.sameKey (.string t.p)) (Lo ++ [t]) := by
  have hne : ∀ x ∈ Lo, x.p ≠ t.p := fun x hx e => by
    have := ((h.mem x).1 hx).2.2
    rw [e, hl] at this; cases this
  have hm : ∀ x, x ∈ Lo ++ [t] ↔ (x ∈ L ∧ nzT x = true ∧ (left (.string x.p) && !(Lit.string x.p).sameKey (.string t.p)) = false) := fun x => by
    rw [List.mem_append, List.mem_singleton, h.mem x]
    constructor
    · rintro (⟨a, b, c⟩ | rfl)
      · exact ⟨a, b, by simp [c]⟩
      · exact ⟨ht, hz, by simp [same_lit]⟩
    · rintro ⟨a, b, c⟩
      simp only [same_lit, Bool.and_eq_false_iff, Bool.not_eq_false', decide_eq_true_eq] at c
      rcases c with c | c
      · exact .inl ⟨a, b, c⟩
      · right
        have e1 := hs.get a
        have e2 := hs.get ht
        rw [c] at e1
        rw [e1] at e2
        exact Option.some.inj e2
  have hp : (Lo ++ [t]).Pairwise fun a b => a.p ≠ b.p := List.pairwise_append.2 ⟨h.nodup, List.pairwise_singleton _ _, fun x hx y hy => by rw [List.mem_singleton.1 hy]; exact hne x hx⟩
  exact ⟨hp, hm, pairwise_len hp fun x hx => ((hm x).1 hx).1⟩
theorem GoodL.fin {L Lo : List Tot} {left : Lit → Bool} (h : GoodL L left Lo) (hl : ∀ z, left z = false) : ∀ t, t ∈ Lo ↔ t ∈ cleanT L := fun t => by
  rw [h.mem t, cleanT, List.mem_filter]
  simp [hl]
theorem GoodL.start {D : DataW Value} {L : List Tot} (h : SpecD D L) (hs : SortT L) : GoodL L (Maps.has D) [] :=
  ⟨List.Pairwise.nil, fun t => ⟨fun h => absurd h List.not_mem_nil, fun ⟨a, _, c⟩ => by rw [spec_has h hs a] at c; cases c⟩, Nat.zero_le _⟩
theorem tot_arr_z (p : List UInt8) : (⟨p, 0, fun _ => 0⟩ : Tot).arr = #[.string (bA p), .int .i64 0, .int .i64 0, .int .i64 0, .int .i64 0, .int .i64 0, .int .i64 0, .int .i64 0, .int .i64 0, .int .i64 0, .int .i64 0, .int .i64 0, .int .i64 0, .int .i64 0] := rfl
theorem nz_eq (t : Tot) : (!eqTB t ⟨t.p, 0, fun _ => 0⟩) = nzT t := by simp [eqTB, nzT]
/-- A row's block is no map's. -/
theorem owns_not_map {w : World} {base e m kx : Nat} {v : Value} {xs : List Value} {o : Obj} {b n : Nat} {D : DataW Value} (hu : (w.alloc o).ownsRow base e m v kx xs) (hm : w.ownsMap prog 9 HeldV b n D) (he : v.ownBlock = some b) : False := by
  obtain ⟨c, fz, hc⟩ := Lib.ownsRow_kind hu b he
  obtain ⟨es, clock, hb, -⟩ := hm
  rw [old1 hb o] at hc
  cases hc
/-- The sort's contract, as list uses it. -/
def SortsT : Prop := ∀ (W : World) (base : Nat) (v : Value) (l : List Tot), OwnTots W base 66 v l → l.length ≤ 10000 → (l.Pairwise fun a b => a.p ≠ b.p) →
  Calls prog 102 #[v, .func (.func 143) #[] #[]] W fun e w' => e = .returned (.tuple #[]) ∧ ∃ l' : List Tot, l'.Perm l ∧ SortT l' ∧ OwnTots w' base 66 v l' ∧ Keeps base W w'

set_option maxHeartbeats 6400000 in
theorem list_w (HSort : SortsT) {L : List Tot} {w : World} {b k : Nat} (hM : MapK w b k L) (hsort : SortT L) (hn : L.length ≤ 10000) :
    Calls prog 87 #[.map (some b)] w fun e w' => (∃ u, e = .returned u ∧ OwnTots w' w.heap.size 66 u (cleanT L)) ∧ Below w.heap.size w w' := by
  obtain ⟨D, hown, hD⟩ := hM
  obtain ⟨iT, TT⟩ := elT
  have HT := Lib.hid TT
  have HG0 := Lib.hid (GoodL.start hD hsort)
  have HS := Lib.hid (And.intro HSort (And.intro hsort hD))
  have hblt := hown.lt
  clear TT HSort hsort hD
  go_enter func87, ntmps87
  go_wp2_with (first
    | (at_range; refine wpList_range_own _ rfl _ 153 rfl 9 66 (string_keyed (by kernel_rfl)) (by kernel_rfl) HeldV b k D rfl hown ?_; intro w0 hrg0 hg0 hs0; go_frame)
    | fail)
  have hrow0 : OwnTots w0 (w.heap.size + 1) 66 (.slice none 0 0) [] := OwnTots.start _ _ _
  have hbl0 : Below w.heap.size w w0 := ⟨hg0.os, hg0.tape, hg0.output, hg0.size, fun i hi => hg0.block i hi (by simp)⟩
  have hsz0 : w.heap.size + 1 ≤ w0.heap.size := Nat.le_of_eq hs0.symm
  clear hown hg0 hs0
  go_loopw [3] (fun t wr => ∃ (left : Lit → Bool) (cnt : Nat) (Lo : List Tot), wr.ranges prog 9 HeldV b w.heap.size k D left cnt ∧ OwnTots wr (w.heap.size + 1) 66 t Lo ∧ Hid (GoodL L left Lo) ∧ Below w.heap.size w wr ∧ w.heap.size + 1 ≤ wr.heap.size) (fun _ wr => wr.rangeLeft b w.heap.size)
  case atStart => exact ⟨_, _, [], hrg0, hrow0, HG0, hbl0, hsz0⟩
  case round =>
    clear hrg0 hrow0 HG0 hbl0 hsz0
    obtain ⟨left, cnt, Lo, hrg, hl, hG, hbl, hsz⟩ := hrel
    go_wp2_with (first
      | (at_next; refine wpList_next_ranges _ rfl _ rfl 9 (string_keyed (by kernel_rfl)) HeldV (fun s : List UInt8 => .string (bA s)) (fun t : Tot => .agg t.arr) invK9 invV9 b w.heap.size k D left cnt rfl hrg ?_ ?_)
      | fail)
    · intro hc0 hl0
      have hfin := Lib.hid (hG.out.fin hl0)
      have cS := HS.out.1 wr (w.heap.size + 1) u3 Lo hl (Nat.le_trans hG.out.len hn) hG.out.nodup
      clear hl hG hrg hl0 hc0
      go_wp2_with fail
      go_at_call 102
      refine cS.mono ?_
      rintro e w9 ⟨rfl, l', hperm, hs', hown', hkeep⟩
      have hb9 : Below w.heap.size w w9 := hkeep w hbl (Nat.le_succ _)
      have hl' : l' = cleanT L := sort_unique hs' (cleanT_sort HS.out.2.1) fun t => (hperm.mem_iff).trans (hfin.out t)
      subst hl'
      have hown2 := hown'.mono (Nat.le_succ _)
      clear cS hperm hs' hkeep hown' hfin
      go_wp2_with fail
      go_ret
      exact ⟨⟨_, rfl, hown2⟩, hb9⟩
    · intro x c kl y1 y2 w1 cnt1 hkx hlx hRc hat hrg1 hlt hg1 hs1 hen
      obtain rfl := key9 hkx
      rw [held_tot] at hRc
      simp only [Option.some.injEq, Prod.mk.injEq] at hRc
      obtain ⟨rfl, rfl⟩ := hRc
      obtain ⟨t, ht, rfl, harr⟩ := spec_at HS.out.2.2 hat
      have hne := neq_tot66 t ⟨t.p, 0, fun _ => 0⟩
      rw [nz_eq, tot_arr_z, harr] at hne
      have hbl1 : Below w.heap.size w w1 := hbl.grown hg1 hbl.size (fun q hq => by cases hq; exact Nat.le_refl _)
      have hl1 : OwnTots w1 (w.heap.size + 1) 66 u3 Lo := ⟨hl.1.kept hg1 (by
        cases hb : Value.ownBlock u3 with
        | none => exact .inl rfl
        | some q => refine .inr fun e => ?_; cases e; have := (OwnRow.lt hl _ hb).1; omega), hl.2⟩
      have hcells : c.cells = t.cells := by rw [← Tot.arr_cells, ← Tot.arr_cells, harr]
      have hb5 : Below w1.heap.size w1 (w1.alloc (.cells c.arr 66)) := (Below.refl _ _).alloc (Nat.le_refl _) _
      have hz5 := at_new w1 c.arr 66
      obtain ⟨W5, hW5⟩ : ∃ W5, w1.alloc (.cells c.arr 66) = W5 := ⟨_, rfl⟩
      rw [hW5] at hb5 hz5
      obtain ⟨z0, z1, z2, z3, z4, z5, z6, z7, z8, z9, z10, z11, z12, z13⟩ := box14t hz5
      have hl5 := hl1.below hb5
      have hbl5 := hbl1.trans (hb5.mono hbl1.size)
      have hsz5 : w.heap.size + 1 ≤ W5.heap.size := Nat.le_trans (Nat.le_trans hsz (Nat.le_of_eq hs1.symm)) hb5.size
      have hrg5 : W5.ranges prog 9 HeldV b w.heap.size k D (fun z => left z && !z.sameKey (.string t.p)) cnt1 := hrg1.kept (row := none) ⟨hb5.os, hb5.tape, hb5.output, hb5.size, fun k hk _ => hb5.block k hk⟩ (by simp) (by simp)
      have hrn := hrg1.ne
      have hme : wr.rangeLeft b w.heap.size = cnt := hrg.left_eq
      unfold Tot.arr at hW5 hen hne ⊢
      cases hz : nzT t with
      | false =>
        rw [hz] at hne
        have hG2 := Lib.hid (hG.out.skip HS.out.2.1 ht hz)
        have HRG := Lib.hid hrg5
        clear hG hkx hlx hat hrg hg1 hs1 hl hbl hsz hz ht hl1 hbl1 hb5 hz5 harr hcells hrg1 hrg5
        go_wp2_with fail
        try rw [hW5]
        go_roundw
        case rel => exact ⟨_, _, Lo, HRG.out, hl5, hG2, hbl5, hsz5⟩
        case measure => rw [HRG.out.left_eq, hme]; omega
      | true =>
        rw [hz] at hne
        have hG2 := Lib.hid (hG.out.more HS.out.2.1 ht hz hlx)
        have hLo := Lib.hid hG.out.len
        have HRG := Lib.hid hrg5
        have HC := Lib.hid hcells
        have HA := Lib.hid harr
        clear hG hkx hlx hat hrg hg1 hs1 hl hbl hsz hz ht hl1 hbl1 hb5 hz5 harr hcells hrg1 hrg5
        go_wp2_with (first
          | (with_reducible refine haltR ?_)
          | fail)
        unfold Halt
        try rw [hW5]
        clear hW5 hne z0 z1 z2 z3 z4 z5 z6 z7 z8 z9 z10 z11 z12 z13 hen
        have hal := fun o => (Below.refl W5.heap.size W5).alloc (Nat.le_refl _) o
        refine wpList_sliceR (fun w => run_sliceT w c) _ rfl _ rfl rfl ?_
        refine wpList_appendR HT.out _ rfl _ _ rfl (w.heap.size + 1) _ (Lo.map Tot.cells) _ rfl 1 rfl (hl5.below (hal _)) (by rw [List.length_map]; have := hLo.out; omega) c.cells (Tot.len _) (Tot.one _) ?hat ?c2 ?_
        case hat => rw [Tot.arr_eq]; exact at_new _ _ _
        case c2 => exact Nat.le_trans hsz5 (hal _).size
        intro a9 k9 c9 w9 hA
        have hl9 : OwnTots w9 (w.heap.size + 1) 66 (.slice a9 k9 c9) (Lo ++ [t]) := by
          have := hA.row
          rw [HC.out] at this
          unfold OwnTots
          rw [List.map_append]
          exact this
        have hbl9 := hA.below w (hbl5.trans ((hal _).mono hbl5.size)) (Nat.le_succ _)
        have hsz9 := Nat.le_trans (Nat.le_trans hsz5 (hal (.cells c.arr 66)).size) hA.size
        obtain ⟨kx, xs, hu, hgr⟩ := hA.grown
        have hrg9 := (HRG.out.alloc (.cells c.arr 66)).kept hgr (fun e => by
          have := owns_not_map hu HRG.out.owns e.symm
          exact this) (fun e => by have := (hl5.lt _ e.symm).1; omega)
        have HRG9 := Lib.hid hrg9
        clear hA hl5 hbl5 hal HRG hu hgr hrg9
        go_wp2_with fail
        go_roundw
        case rel => exact ⟨_, _, _, HRG9.out, hl9, hG2, hbl9, hsz9⟩
        case measure => rw [HRG9.out.left_eq, hme]; omega
end Go.Proofs.Tryz
