/- Plain: what a valid play's moves are. Rows in memory: carried on, equal, owned. Small contracts. Short and the copies of a play, by the kit's walk. The copy of a play, by the kit's walk. The copy of a play: CopyPlay and copied. moveOf, MoveOf, and what two moves or two lists are compared with, by the kit's walk. Putouts of both sides, the reference's MoveOf, and the comparisons of moves and lists, by the kit's walk. Plain: the assists, as the keys of a map and as a list. Short as a statement, Touches of whatever play, awake: by the kit's walk. kept at moves: whatever the predicate, by the kit's walk. Outs, Runs and Advances of the program, by the kit's walk. Plain: what holds of a valid play's moves, one by one, and of the sums over them. -/
import Derived.Test.YthlmjjdlmidnlaaGreatDoorArVu
import Derived.Test.YthlmjjdlmidnlaaGreatDoorArCc
import Derived.Test.YthlmjjdlmidnlaaGreatDoorArDe
import Derived.Test.YthlmjjdlmidnlaaGreatDoorArOu
import Derived.OneCell
import Derived.Lib.OwnKind
import Derived.Maps.AppendAt
import Derived.Lib.SlKeysI
import Derived.Maps.Views
import Derived.Maps.OwnSet
import Derived.Shelf.SlIterI.Nil
import Derived.Shelf.SortM.Plain
import Derived.Shelf.SortM.SortNone
import Derived.Ground.GgzProg
import Derived.Ground.SlgmProg
import Derived.Test.YthlmjjdlmidnlaaGreatDoorProg
import Derived.Lib.Hide
import Derived.Test.YthlmjjdlmidnlaaGreatDoorArZc
namespace Go.Proofs.Tryz
open Go Go.Am
set_option maxRecDepth 100000

/-- Each leaf is an error or the touches' check. -/
inductive OkD : DT → Prop
  | bad (n : Int) (h : n ≠ 0) : OkD (dLf n)
  | tch : OkD (.leaf mTch)
  | node (t : Tst) (a b : DT) (h1 : OkD a) (h2 : OkD b) : OkD (.node t a b)
theorem OkD.zero {ρ : Env} {d : DT} (h : OkD d) : d.eval ρ = 0 → mTch.val ρ = 0 := by
  induction h with
  | bad n hn => intro e; rw [ev_lf'] at e; exact absurd e hn
  | tch => intro e; rw [ev_leaf] at e; exact e
  | node t a b _ _ i1 i2 =>
    intro e
    unfold DT.eval at e
    cases ht : t.holds ρ with
    | true => rw [ht] at e; exact i1 e
    | false => rw [ht] at e; exact i2 e
theorem okD_way {d : Int → DT} (h : ∀ c, OkD (d c)) : ∀ l, OkD (wayR d l)
  | [] => .bad 13 (by decide)
  | _ :: l => .node _ _ _ (h _) (okD_way h l)
theorem okD_good (t : Tst) : OkD (goodD t) := .node _ _ _ .tch (.bad 15 (by decide))
theorem okD_safe (c : Int) : OkD (safeR c) := by
  unfold safeR
  refine .node _ _ _ (.bad 15 (by decide)) (.node _ _ _ ?_ .tch)
  split
  · exact .bad 15 (by decide)
  · exact .tch
theorem okD_outs (c : Int) : OkD (outsR c) := by
  unfold outsR
  split
  · exact .node _ _ _ (.bad 15 (by decide)) (okD_good _)
  split
  · exact okD_good _
  split
  · exact .node _ _ _ (.bad 15 (by decide)) (.node _ _ _ (okD_good _) .tch)
  split
  · exact okD_good _
  · exact .node _ _ _ (okD_good _) (.bad 15 (by decide))

theorem mvV_zero {fr to x so sn bo bn : Int} {y t : Int → Int} (h : mvV fr to x y so sn t bo bn = 0) : (0 ≤ fr ∧ fr ≤ 3) ∧ (1 ≤ to ∧ to ≤ 4) ∧ tchV x t bo bn = 0 := by
  have hD : OkD (.node (.eq mSn (L 1)) (.node (.eq mOu (L 0)) (wayR safeR [98, 97, 115, 112, 107, 116, 111]) (wayR outsR [102, 103, 99, 100, 107, 110, 121])) (dLf 13)) :=
    .node _ _ _ (.node _ _ _ (okD_way okD_safe _) (okD_way okD_outs _)) (.bad 13 (by decide))
  unfold mvV moveR range34 at h
  simp only [ev_le, ev_lf', val_L', mv_fr, mv_to] at h
  by_cases h1 : 0 ≤ fr
  case neg => rw [if_neg h1] at h; cases h
  by_cases h2 : fr ≤ 3
  case neg => rw [if_pos h1, if_neg h2] at h; cases h
  by_cases h3 : 1 ≤ to
  case neg => rw [if_pos h1, if_pos h2, if_neg h3] at h; cases h
  by_cases h4 : to ≤ 4
  case neg => rw [if_pos h1, if_pos h2, if_pos h3, if_neg h4] at h; cases h
  rw [if_pos h1, if_pos h2, if_pos h3, if_pos h4] at h
  have := hD.zero h
  rw [mv_tch] at this
  exact ⟨⟨h1, h2⟩, ⟨h3, h4⟩, this⟩

section
variable {x o n : Int} {t : Int → Int}
theorem tch_at (j : Nat) : (tchE j).val (envV [x, o, n] (fT t)) = t (o + j) := (rfl)
theorem tch_tn : tN.val (envV [x, o, n] (fT t)) = n := (rfl)
theorem tch_to : tO.val (envV [x, o, n] (fT t)) = x := (rfl)
theorem loop_zero : ∀ m : Nat, m ≤ 9 → (tchLoop m).eval (envV [x, o, n] (fT t)) = 0 → ∀ j : Nat, 9 - m ≤ j → j < 9 → (j : Int) < n → 1 ≤ t (o + j) ∧ t (o + j) ≤ 9
  | 0, _, _, j, h1, h2, _ => by omega
  | m + 1, hm, h, j, h1, h2, h3 => by
    unfold tchLoop at h
    simp only [ev_le, ev_lf', val_L', tch_tn, tch_at] at h
    by_cases a1 : n ≤ ((8 - m : Nat) : Int)
    · exfalso; omega
    rw [if_neg a1] at h
    by_cases a2 : 1 ≤ t (o + ((8 - m : Nat) : Int))
    case neg => rw [if_neg a2] at h; cases h
    by_cases a3 : t (o + ((8 - m : Nat) : Int)) ≤ 9
    case neg => rw [if_pos a2, if_neg a3] at h; cases h
    rw [if_pos a2, if_pos a3] at h
    have hrest : (tchLoop m).eval (envV [x, o, n] (fT t)) = 0 := by
      cases hq : 8 - m with
      | zero => rw [hq] at h; exact h
      | succ i =>
        rw [hq] at h
        simp only [ev_eq, ev_lf', tch_at] at h
        split at h
        · cases h
        · exact h
    by_cases hj : j = 8 - m
    · subst hj; exact ⟨a2, a3⟩
    · exact loop_zero m (by omega) hrest j (by omega) h2 h3

theorem tchV_zero (h : tchV x t o n = 0) : n ≤ 9 ∧ (x ≠ 0 → n ≠ 0) ∧ ∀ j : Nat, (j : Int) < n → 1 ≤ t (o + j) ∧ t (o + j) ≤ 9 := by
  unfold tchV tchT at h
  simp only [ev_le, ev_eq, ev_lf', val_L', tch_tn, tch_to] at h
  by_cases a1 : n ≤ 9
  case neg => rw [if_neg a1] at h; cases h
  rw [if_pos a1] at h
  have fin : (tchLoop 9).eval (envV [x, o, n] (fT t)) = 0 → ∀ j : Nat, (j : Int) < n → 1 ≤ t (o + j) ∧ t (o + j) ≤ 9 := fun hl j hj => loop_zero 9 (Nat.le_refl _) hl j (by omega) (by omega) hj
  by_cases a2 : x = 0
  · rw [if_pos a2] at h
    exact ⟨a1, fun q => absurd a2 q, fin h⟩
  · rw [if_neg a2] at h
    by_cases a3 : n = 0
    · rw [if_pos a3] at h; cases h
    · rw [if_neg a3] at h
      exact ⟨a1, fun _ => a3, fin h⟩
end

theorem mvs_zero (d : Nat → MvD) : ∀ (n i : Nat), mvsV d n i = 0 → ∀ j, i ≤ j → j < i + n → (d j).check = 0
  | 0, i, _, j, h1, h2 => by omega
  | n + 1, i, h, j, h1, h2 => by
    unfold mvsV at h
    by_cases hc : (d i).check = 0
    · rw [if_pos hc] at h
      split at h
      · cases h
      · by_cases hj : j = i
        · subst hj; exact hc
        · exact mvs_zero d n (i + 1) h j (by omega) (by omega)
    · rw [if_neg hc] at h; exact absurd h hc

theorem val_of {y0 y1 : Int → Int} {yo yn eo en : Int} {d : Nat → MvD} {n : Nat} (h : plV y0 yo yn y1 eo en d n = 0) (hb : ∀ i, i < n → 0 ≤ (d i).bn) : Val d n ∧ ∀ i, i < n → 1 ≤ (d i).to ∧ (d i).to ≤ 4 := by
  unfold plV at h
  by_cases h1 : pitV y0 yo yn = 0
  case neg => rw [if_neg h1] at h; exact absurd h h1
  rw [if_pos h1] at h
  by_cases h2 : evOk y1 eo en = true
  case neg => rw [if_neg h2] at h; cases h
  rw [if_pos h2] at h
  by_cases h3 : n ≤ 4
  case neg => rw [if_neg h3] at h; cases h
  rw [if_pos h3] at h
  have hc : ∀ i, i < n → (d i).check = 0 := fun i hi => mvs_zero d n 0 h i (Nat.zero_le _) (by omega)
  refine ⟨⟨h3, fun i hi => (mvV_zero (hc i hi)).1, fun i hi => ⟨hb i hi, (tchV_zero (mvV_zero (hc i hi)).2.2).1⟩, fun i hi hx => ?_, fun i hi j hj => (tchV_zero (mvV_zero (hc i hi)).2.2).2.2 j hj⟩, fun i hi => (mvV_zero (hc i hi)).2.1⟩
  have := (tchV_zero (mvV_zero (hc i hi)).2.2).2.1 hx
  have := hb i hi
  omega
end Go.Proofs.Tryz

namespace Go.Proofs.Tryz
open Go Go.Am Go.RowKit Go.Dr
set_option maxRecDepth 100000

theorem Laid.below {w W : World} (h : Laid w) (hb : Below w.heap.size w W) : Laid W := fun b o v e => (hb.cell (cell_under (h b o v e))).trans (h b o v e)
theorem IsMoves.below {w W : World} {v : Value} {d : Nat → MvD} {n : Nat} (hm : IsMoves w v d n) (h : Below w.heap.size w W) : IsMoves W v d n := by
  obtain ⟨a, c, rfl, hc, hr⟩ := hm
  exact ⟨a, c, rfl, hc, fun h0 => let ⟨b, off, ha, hi⟩ := hr h0; ⟨b, off, ha, fun i hin => (hi i hin).below h⟩⟩

/-- The integers of a list, as a row. -/
def tl (l : List Int) : Int → Int := fun j => l[j.toNat]?.getD 0

theorem intsOf {w : World} {base n : Nat} {v : Value} {t : Int → Int} {o : Int} (h : w.ownsRow base 3 1 v n (vsOf (intsL t o n))) : IsInts w v t o n := by
  rcases h.2 with ⟨rfl, rfl⟩ | ⟨g, cap, cur, rfl, h1, h2, h3, h4, h5, h6⟩
  · exact ⟨none, 0, 0, rfl, Nat.le_refl _, rfl, fun q => absurd rfl q⟩
  · refine ⟨_, n, cap, rfl, h3, rfl, fun _ => ⟨g, 0, rfl, fun j hj => ?_⟩⟩
    have := h.cellAt j (by omega)
    simp only [Nat.zero_add, vsOf, List.getElem?_map, intsL_get hj, Option.map_some] at this ⊢
    exact this

/-- The move that is none. -/
def noM : MvD := ⟨0, 0, 0, fun _ => 0, 0, 0, fun _ => 0, 0, 0⟩
theorem hasB15 : f15.body.isSome = true := by kernel_rfl
theorem hasB17 : f17.body.isSome = true := by kernel_rfl
theorem fn15 : cx.fn 15 = some f15 := by kernel_rfl
theorem fn17 : cx.fn 17 = some f17 := by kernel_rfl
section
variable {w : World} {y0 y1 : Int → Int} {yo yn eo en lx : Int} {d : Nat → MvD} {n : Nat} {pvv ev mv : Value}
theorem chk_w (h : Laid w) (hp : IsStr pvv y0 yo yn) (he : IsStr ev y1 eo en) (hm : IsMoves w mv d n) :
    Calls prog 15 #[.agg #[pvv, ev, .bool (decide (lx ≠ 0)), mv]] w fun e w' => e = .returned (.int .i64 (plV y0 yo yn y1 eo en d n)) ∧ Below w.heap.size w w' := by
  obtain ⟨c, hc⟩ := Option.isSome_iff_exists.1 hasB15
  refine (CallRet.calls fn15 hc (play_ret h hp he hm)).mono ?_
  rintro e w' ⟨v, rfl, rfl, hk⟩
  exact ⟨rfl, belowOf hk⟩
theorem chkR_w (h : Laid w) (hp : IsStr pvv y0 yo yn) (he : IsStr ev y1 eo en) (hm : IsMoves w mv d n) :
    Calls prog 17 #[.agg #[pvv, ev, .bool (decide (lx ≠ 0)), mv]] w fun e w' => e = .returned (.int .i64 (plV y0 yo yn y1 eo en d n)) ∧ Below w.heap.size w w' := by
  obtain ⟨c, hc⟩ := Option.isSome_iff_exists.1 hasB17
  refine (CallRet.calls fn17 hc (playR_ret h hp he hm)).mono ?_
  rintro e w' ⟨v, rfl, rfl, hk⟩
  exact ⟨rfl, belowOf hk⟩
end

theorem when_w (b : Bool) (e : Int) (w : World) : Calls prog 71 #[.bool b, .int .i64 e] w fun x w' => x = .returned (.int .i64 (if b = true then e else 0)) ∧ w' = w := by
  go_enter func71, ntmps71
  cases b with
  | true => go_wp2; go_ret; exact ⟨rfl, rfl⟩
  | false => go_wp2; go_ret; exact ⟨rfl, rfl⟩

/-- The first error of two. -/
theorem first_w (b : Nat) (x y : Int) (w : World) (h0 : w.cell? ⟨b, 0, none⟩ = some (.int .i64 x)) (h1 : w.cell? ⟨b, 1, none⟩ = some (.int .i64 y)) : Calls prog 70 #[.slice (some ⟨b, 0, none⟩) 2 2] w fun e w' => e = .returned (.int .i64 (if x = 0 then y else x)) ∧ Below w.heap.size w w' := by
  go_enter func70, ntmps70
  by_cases hx : x = 0
  · subst hx
    by_cases hy : y = 0
    · subst hy
      go_wp2
      refine wp_loop_rounds 3 ?_
      rw [rounds_succ]
      go_wp2
      rw [rounds_succ]
      go_wp2
      rw [rounds_succ]
      go_wp2
      go_ret
      exact ⟨rfl, Below.refl _ _⟩
    · go_wp2
      refine wp_loop_rounds 2 ?_
      rw [rounds_succ]
      go_wp2
      rw [rounds_succ]
      go_wp2
      go_ret
      exact ⟨rfl, Below.refl _ _⟩
  · go_wp2
    refine wp_loop_rounds 1 ?_
    rw [rounds_succ]
    go_wp2
    go_ret
    exact ⟨by first | rfl | (rw [if_neg hx]; rfl), Below.refl _ _⟩

end Go.Proofs.Tryz

namespace Go.Proofs.Tryz
open Go Go.Am Go.RowKit Go.Dr
set_option maxRecDepth 100000

/-- A move in memory, cell by cell. -/
structure MvAt (w : World) (b p : Nat) (x : MvD) (s : ByteArray) (ad : Option Addr) (m c : Nat) : Prop where
  c0 : w.cell? ⟨b, p, none⟩ = some (.int .i64 x.fr)
  c1 : w.cell? ⟨b, p + 1, none⟩ = some (.int .i64 x.to)
  c2 : w.cell? ⟨b, p + 2, none⟩ = some (.bool (decide (x.x ≠ 0)))
  c3 : w.cell? ⟨b, p + 3, none⟩ = some (.string s)
  c4 : w.cell? ⟨b, p + 4, none⟩ = some (.slice ad m c)
  str : IsStr (.string s) x.y x.so x.sn
  mc : m ≤ c
  hm : (m : Int) = x.bn
  row : m ≠ 0 → ∃ b2 o2, ad = some ⟨b2, o2, none⟩ ∧ ∀ j, j < m → w.cell? ⟨b2, o2 + j, none⟩ = some (.int .i64 (x.t (x.bo + (j : Int))))
theorem mv_at {w : World} {b off i : Nat} {x : MvD} (h : IsMv w (cellsAt w b (off + 5 * i) 5) x) : ∃ s ad m c, MvAt w b (off + i * 5) x s ad m c := by
  obtain ⟨sv, bv, hcs, ⟨sl, rfl, k1, k2⟩, ad, m, c, rfl, hmc, hm, hj⟩ := h
  have e5 : off + 5 * i = off + i * 5 := by omega
  simp only [cellsAt, List.cons.injEq, and_true, e5] at hcs
  obtain ⟨q0, q1, q2, q3, q4⟩ := hcs
  exact ⟨_, ad, m, c, q0, q1, q2, q3, q4, ⟨sl, rfl, k1, k2⟩, hmc, hm, hj⟩
section
variable {w : World} {y0 y1 : Int → Int} {yo yn eo en : Int} {lx : Bool} {d : Nat → MvD} {n : Nat} {pvv ev mv : Value}
end
end Go.Proofs.Tryz

namespace Go.Proofs.Tryz
open Go Go.Am Go.RowKit Go.Dr
set_option maxRecDepth 100000

theorem info27 : (prog.info? 27).map (fun i => (i.zero, i.size, i.bytes)) = some (some (.agg #[.int .i64 0, .int .i64 0, .bool false, .string ⟨#[]⟩, .slice none 0 0]), 5, 64) := by kernel_rfl
theorem info_more {e : TypeId} {z : Value} {s b : Nat} (h : (prog.info? e).map (fun i => (i.zero, i.size, i.bytes)) = some (some z, s, b)) : ∃ i, prog.info? e = some i ∧ i.zero = some z ∧ i.size = s ∧ i.bytes = b := by
  cases hi : prog.info? e with
  | none => rw [hi] at h; cases h
  | some i =>
    rw [hi] at h
    simp only [Option.map_some, Option.some.injEq, Prod.mk.injEq] at h
    exact ⟨i, rfl, h.1, h.2.1, h.2.2⟩

/-- 'append([]int{}, l...)', nil or not. -/
theorem wpList_append0 (w : World) {ops : Array Oper} {rest : List Oper} {o : Oper} {a : Act} {Q : Exit → Act → World → Prop} (hgd : o.guard = none) (s x : Operand)
    (ho : o.op = .call { callee := .builtin .append, args := #[s, x], argTypes := #[25, 25] }) (base g : Nat) (hs : a.eval s = .slice (some ⟨g, 0, none⟩) 0 0) (hown : w.ownsRow base 3 1 (.slice (some ⟨g, 0, none⟩) 0 0) 0 [])
    (t : Int → Int) (ob : Int) (ad : Option Addr) (m c : Nat) (hx : a.eval x = .slice ad m c) (hrow : m ≠ 0 → ∃ b2 o2, ad = some ⟨b2, o2, none⟩ ∧ ∀ j, j < m → w.cell? ⟨b2, o2 + j, none⟩ = some (.int .i64 (t (ob + (j : Int))))) (hm : m ≤ 1000000) (hbase : base ≤ w.heap.size)
    (h : ∀ v' w', w'.ownsRow base 3 1 v' m (vsOf (intsL t ob m)) → w.grownBy w' (some g) → wpList prog ops Q rest (a.put o.dst v') w') : wpList prog ops Q (o :: rest) a w := by
  obtain ⟨i0, hi, hz0, hz1, hz2⟩ := info_parts info3
  have go : ∀ (ad' : Addr), ad = some ad' → (∀ j, j < m → w.cell? (ad'.add j) = some (.int .i64 (t (ob + (j : Int))))) → wpList prog ops Q (o :: rest) a w := fun ad' e hc => by
    subst e
    refine wpList_append_own w hgd s x 25 ho base 3 i0 (.int .i64 0) 1 8 underlying25 hi hz0 hz1 hz2 rfl (by decide) _ 0 [] hs hown ad' m c (vsOf (intsL t ob m)) hx (by simp [vsOf, length_intsL]) ?_ ?_ (by unfold maxLen; omega) (by omega) hbase ?_
    · intro j u hj
      have hlt := (List.getElem?_eq_some_iff.1 hj).1
      simp only [vsOf, List.length_map, length_intsL] at hlt
      simp only [vsOf, List.getElem?_map, intsL_get hlt, Option.map_some, Option.some.injEq] at hj
      subst hj
      exact hc j hlt
    · intro u hu
      simp only [vsOf, List.mem_map] at hu
      obtain ⟨x, _, rfl⟩ := hu; rfl
    · intro v' w' h1 h2 _
      exact h v' w' (by simpa using h1) h2
  by_cases h0 : m = 0
  · subst h0
    cases ad with
    | some ad' => exact go ad' rfl fun j hj => absurd hj (Nat.not_lt_zero _)
    | none =>
      have hrun : (Builtin.append_ #[25, 25] o.type #[.slice (some ⟨g, 0, none⟩) 0 0, .slice none 0 c]).run prog w = .ok (.slice (some ⟨g, 0, none⟩) 0 0) w := by
        have hst : (storeCells ((⟨g, 0, none⟩ : Addr).add 0) []).run prog w = .ok () w := rfl
        simp [Builtin.append_, run_underlying underlying25, sizeOf, typeInfo, hi, Builtin.lenOf, Builtin.firstCells, hst]
      refine wpList_plain hgd fun K' hK' => ?_
      unfold Oper.wp execOp
      simp only [ho, resolve, invoke, builtin, Sem.run_bind, Sem.run_pure, Result.andThen_ok, List.map_toArray, List.map_cons, List.map_nil, hs, hx, hrun]
      exact hK' _ _ (h _ _ (by simpa [vsOf, intsL] using hown) (World.grownBy.refl _ _))
  · obtain ⟨b2, o2, e, hc⟩ := hrow h0
    exact go _ e fun j hj => by rw [add_adr]; exact hc j hj

theorem cell_new (w : World) (cs : Array Value) (e : TypeId) (j : Nat) {g : Nat} (hg : g = w.heap.size) : (w.alloc (.cells cs e)).cell? ⟨g, j, none⟩ = cs[j]? := by
  subst hg
  have h := heap_alloc_new w (.cells cs e)
  unfold World.cell?
  simp only [h]
  simp
theorem size_set (w : World) (a : Addr) (v : Value) : (w.setCell a v).heap.size = w.heap.size := by simp

/-- What a copied row of moves holds. -/
def CopOk (w : World) (base : Nat) (d : Nat → MvD) (i : Nat) (vs : List Value) : Prop := vs.length = 5 * i ∧ ∀ j, j < i → ∃ sv bv, vs[5 * j]? = some (vi (d j).fr) ∧ vs[5 * j + 1]? = some (vi (d j).to) ∧ vs[5 * j + 2]? = some (.bool (decide ((d j).x ≠ 0))) ∧
  vs[5 * j + 3]? = some sv ∧ vs[5 * j + 4]? = some bv ∧ IsStr sv (d j).y (d j).so (d j).sn ∧ w.ownsRow base 3 1 bv (d j).bn.toNat (vsOf (intsL (d j).t (d j).bo (d j).bn.toNat)) ∧ 0 ≤ (d j).bn
theorem CopOk.kept {w W : World} {base : Nat} {d : Nat → MvD} {i : Nat} {vs : List Value} (h : CopOk w base d i vs) {g : Option Nat} (hg : w.grownBy W g) (hne : ∀ k, g = some k → ∀ cs z, w.heap[k]? ≠ some (.cells cs 3 z)) : CopOk W base d i vs := by
  refine ⟨h.1, fun j hj => ?_⟩
  obtain ⟨sv, bv, e0, e1, e2, e3, e4, hs, ho, h0⟩ := h.2 j hj
  refine ⟨sv, bv, e0, e1, e2, e3, e4, hs, ho.kept hg ?_, h0⟩
  cases hb : bv.ownBlock with
  | none => exact .inl rfl
  | some k =>
    refine .inr fun e => ?_
    obtain ⟨c, fz, hc⟩ := Lib.ownsRow_kind ho k hb
    exact hne k e.symm c fz hc
theorem CopOk.below {w W : World} {base : Nat} {d : Nat → MvD} {i : Nat} {vs : List Value} (h : CopOk w base d i vs) (hb : Below w.heap.size w W) : CopOk W base d i vs := by
  refine ⟨h.1, fun j hj => ?_⟩
  obtain ⟨sv, bv, e0, e1, e2, e3, e4, hs, ho, h0⟩ := h.2 j hj
  exact ⟨sv, bv, e0, e1, e2, e3, e4, hs, owns_below ho hb, h0⟩
theorem kinds_ne {w : World} {b1 b2 e1 e2 s1 s2 n1 n2 : Nat} {v1 v2 : Value} {x1 x2 : List Value} (h1 : w.ownsRow b1 e1 s1 v1 n1 x1) (h2 : w.ownsRow b2 e2 s2 v2 n2 x2) (hne : e1 ≠ e2) : v1.ownBlock = none ∨ v1.ownBlock ≠ v2.ownBlock := by
  cases hb : v1.ownBlock with
  | none => exact .inl rfl
  | some k =>
    refine .inr fun e => ?_
    obtain ⟨c, fz, hc⟩ := Lib.ownsRow_kind h1 k hb
    obtain ⟨c', fz', hc'⟩ := Lib.ownsRow_kind h2 k e.symm
    rw [hc] at hc'
    simp only [Option.some.injEq, Obj.cells.injEq] at hc'
    exact hne hc'.2.1
theorem owns_slice {w : World} {base e size n : Nat} {v : Value} {xs : List Value} (h : w.ownsRow base e size v n xs) : ∃ a k c, v = .slice a k c := by
  rcases h.2 with ⟨rfl, _⟩ | ⟨g, cap, cur, rfl, _⟩
  · exact ⟨_, _, _, rfl⟩
  · exact ⟨_, _, _, rfl⟩
theorem CopOk.snoc {w : World} {base : Nat} {d : Nat → MvD} {i : Nat} {vs : List Value} (h : CopOk w base d i vs) {sv bv : Value} (hs : IsStr sv (d i).y (d i).so (d i).sn) (ho : w.ownsRow base 3 1 bv (d i).bn.toNat (vsOf (intsL (d i).t (d i).bo (d i).bn.toNat))) (h0 : 0 ≤ (d i).bn) :
    CopOk w base d (i + 1) (vs ++ [vi (d i).fr, vi (d i).to, .bool (decide ((d i).x ≠ 0)), sv, bv]) := by
  refine ⟨by simp [h.1]; omega, fun j hj => ?_⟩
  by_cases hji : j = i
  · subst hji
    have e : ∀ k, k < 5 → (vs ++ [vi (d j).fr, vi (d j).to, .bool (decide ((d j).x ≠ 0)), sv, bv])[5 * j + k]? = [vi (d j).fr, vi (d j).to, .bool (decide ((d j).x ≠ 0)), sv, bv][k]? := fun k hk => by
      rw [List.getElem?_append_right (by rw [h.1]; omega), h.1, show 5 * j + k - 5 * j = k by omega]
    exact ⟨sv, bv, e 0 (by omega), e 1 (by omega), e 2 (by omega), e 3 (by omega), e 4 (by omega), hs, ho, h0⟩
  · obtain ⟨sv', bv', e0, e1, e2, e3, e4, hs', ho', h0'⟩ := h.2 j (by omega)
    have e : ∀ k, k < 5 → (vs ++ [vi (d i).fr, vi (d i).to, .bool (decide ((d i).x ≠ 0)), sv, bv])[5 * j + k]? = vs[5 * j + k]? := fun k hk => List.getElem?_append_left (by rw [h.1]; omega)
    exact ⟨sv', bv', (e 0 (by omega)).trans e0, (e 1 (by omega)).trans e1, (e 2 (by omega)).trans e2, (e 3 (by omega)).trans e3, (e 4 (by omega)).trans e4, hs', ho', h0'⟩
theorem copied_is {w : World} {base : Nat} {d : Nat → MvD} {n : Nat} {v : Value} {vs : List Value} (hown : w.ownsRow base 27 5 v n vs) (h : CopOk w base d n vs) : IsMoves w v d n := by
  rcases hown.2 with ⟨rfl, rfl⟩ | ⟨g, cap, cur, rfl, h1, h2, h3, h4, h5, h6⟩
  · exact ⟨none, 0, rfl, Nat.le_refl _, fun q => absurd rfl q⟩
  · refine ⟨_, cap, rfl, h3, fun _ => ⟨g, 0, rfl, fun i hi => ?_⟩⟩
    obtain ⟨sv, bv, e0, e1, e2, e3, e4, hs, ho, h0⟩ := h.2 i hi
    have c : ∀ k, k < 5 → w.cell? ⟨g, 5 * i + k, none⟩ = vs[5 * i + k]? := fun k hk => hown.cellAt _ (by omega)
    refine ⟨sv, bv, ?_, hs, ?_⟩
    · simp only [cellsAt, Nat.zero_add]
      rw [show (5 * i + 1 + 1 : Nat) = 5 * i + 2 from rfl, show (5 * i + 2 + 1 : Nat) = 5 * i + 3 from rfl, show (5 * i + 3 + 1 : Nat) = 5 * i + 4 from rfl, c 1 (by omega), c 2 (by omega), c 3 (by omega), c 4 (by omega), e1, e2, e3, e4]
      have := c 0 (by omega)
      rw [Nat.add_zero] at this
      rw [this, e0]
    · have := intsOf ho
      rw [Int.toNat_of_nonneg h0] at this
      exact this

/-- Moves in a row of the call's own. -/
def OwnMoves (w : World) (base : Nat) (v : Value) (d : Nat → MvD) (n : Nat) : Prop := ∃ vs, w.ownsRow base 27 5 v n vs ∧ CopOk w base d n vs
theorem OwnMoves.is {w : World} {base : Nat} {v : Value} {d : Nat → MvD} {n : Nat} (h : OwnMoves w base v d n) : IsMoves w v d n := let ⟨_, h1, h2⟩ := h; copied_is h1 h2
theorem OwnMoves.slice {w : World} {base : Nat} {v : Value} {d : Nat → MvD} {n : Nat} (h : OwnMoves w base v d n) : ∃ a k c, v = .slice a k c := let ⟨_, h1, _⟩ := h; owns_slice h1
theorem OwnMoves.mono {w : World} {base b2 : Nat} {v : Value} {d : Nat → MvD} {n : Nat} (h : OwnMoves w base v d n) (hb : b2 ≤ base) : OwnMoves w b2 v d n := by
  obtain ⟨vs, h1, h2, h3⟩ := h
  refine ⟨vs, owns_base h1 hb, h2, fun j hj => ?_⟩
  obtain ⟨sv, bv, e0, e1, e2, e3, e4, hs, ho, h0⟩ := h3 j hj
  exact ⟨sv, bv, e0, e1, e2, e3, e4, hs, owns_base ho hb, h0⟩
theorem OwnMoves.setCell {w : World} {base : Nat} {v : Value} {d : Nat → MvD} {n : Nat} (h : OwnMoves w base v d n) {a : Addr} (ha : a.block < base) (u : Value) : OwnMoves (w.setCell a u) base v d n := by
  obtain ⟨vs, h1, h2, h3⟩ := h
  refine ⟨vs, ownsRow_setCell_below h1 ha u, h2, fun j hj => ?_⟩
  obtain ⟨sv, bv, e0, e1, e2, e3, e4, hs, ho, h0⟩ := h3 j hj
  exact ⟨sv, bv, e0, e1, e2, e3, e4, hs, ownsRow_setCell_below ho ha u, h0⟩

set_option maxHeartbeats 3200000 in
theorem copyMoves_w {w : World} {d : Nat → MvD} {n : Nat} {mv : Value} (hm : IsMoves w mv d n) (hn : n ≤ 6) (hb : ∀ i, i < n → (d i).bn ≤ 40) :
    Calls prog 19 #[mv] w fun e w' => ∃ v, e = .returned v ∧ OwnMoves w' w.heap.size v d n ∧ Below w.heap.size w w' := by
  obtain ⟨ad0, c0, rfl, hnc, hM0⟩ := hm
  obtain ⟨i27, hi, hz0, hz1, hz2⟩ := info_more info27
  have zz : ((.agg #[.int .i64 0, .int .i64 0, .bool false, .string ⟨#[]⟩, .slice none 0 0] : Value)).cells.size = 5 := rfl
  go_enter func19, ntmps19
  go_wp2
  go_loopw [3, 4] (fun r s wr => ∃ (i : Nat) (vs : List Value) (v : Value), i ≤ n ∧ s = .int .i64 i ∧ v = r ∧ wr.ownsRow w.heap.size 27 5 v i vs ∧ CopOk wr w.heap.size d i vs ∧ Below w.heap.size w wr) (fun _ s _ => n - (numOf' s).toNat)
  case atStart => exact ⟨0, [], _, Nat.zero_le _, rfl, rfl, World.ownsRow_nil _ _ _ _, ⟨rfl, fun j hj => absurd hj (Nat.not_lt_zero _)⟩, Below.refl _ _⟩
  case round =>
    obtain ⟨i, vs, v, hi', rfl, rfl, hown, hcop, hbel⟩ := hrel
    by_cases hin : i < n
    · obtain ⟨b, off, rfl, hM⟩ := hM0 (by omega)
      obtain ⟨s, ad, m, c, hmv⟩ := mv_at ((hM i hin).below hbel)
      have hb40 := hb i hin
      clear hM hM0 hb
      obtain ⟨p0, p1, p2, p3, p4, hstr, -, hbn, hrow⟩ := hmv
      obtain ⟨xb, hxb⟩ : ∃ xb : Bool, decide ((d i).x ≠ 0) = xb := ⟨_, rfl⟩
      rw [hxb] at p2
      obtain ⟨f1, hf1⟩ : ∃ f1, (d i).fr = f1 := ⟨_, rfl⟩
      obtain ⟨f2, hf2⟩ : ∃ f2, (d i).to = f2 := ⟨_, rfl⟩
      rw [hf1] at p0
      rw [hf2] at p1
      have hlt : m ≤ 40 := by omega
      have hrow2 : m ≠ 0 → ∃ b2 o2, ad = some ⟨b2, o2, none⟩ ∧ ∀ j, j < m → ((wr.alloc (.cells #[.int .i64 f1, .int .i64 f2, .bool xb, .string s, .slice ad m c] 27)).alloc (.cells #[] 3)).cell? ⟨b2, o2 + j, none⟩ = some (.int .i64 ((d i).t ((d i).bo + (j : Int)))) := fun q => by
        obtain ⟨b2, o2, e, f⟩ := hrow q
        refine ⟨b2, o2, e, fun j hj => ?_⟩
        have := f j hj
        rw [World.cell?_alloc_past _ _ _ (by have := cell_under this; simp; omega), World.cell?_alloc_past _ _ _ (cell_under this)]; exact this
      clear hrow
      have hl0 : ((wr.alloc (.cells #[.int .i64 f1, .int .i64 f2, .bool xb, .string s, .slice ad m c] 27)).alloc (.cells #[] 3)).ownsRow (w.heap.size) 3 1 (.slice (some ⟨wr.heap.size + 1, 0, none⟩) 0 0) 0 [] := by
        have := World.ownsRow_lit (base := w.heap.size) (e := 3) (size := 1) (wr.alloc (.cells #[.int .i64 f1, .int .i64 f2, .bool xb, .string s, .slice ad m c] 27)) #[] 0 (by have := hbel.size; simp; omega) (Nat.zero_le _) rfl
        simpa using this
      go_wp2_with (first
        | (at_builtin; refine wpList_append0 _ rfl _ _ rfl w.heap.size (wr.heap.size + 1) rfl hl0 (d i).t (d i).bo ad m c rfl hrow2 (by omega) (by have := hbel.size; simp; omega) ?_)
        | go_in)
      intro bv w2 hbv hgr
      obtain ⟨av, nv, cv, rfl⟩ := owns_slice hbv
      have hsz := hbel.size
      have hB2 : Below wr.heap.size wr w2 := (((Below.refl wr.heap.size wr).alloc (Nat.le_refl _) _).alloc (by simp) _).grown hgr (by simp; omega) (fun q hq => by cases hq; omega)
      have hx0 : w2.heap[wr.heap.size]? = some (.cells #[.int .i64 f1, .int .i64 f2, .bool xb, .string s, .slice ad m c] 27 (0, 0)) := (hgr.block _ (by rw [size2]; omega) (fun e => by have := Option.some.inj e; omega)).trans (al2_0 _ _ _)
      have q0 : w2.cell? ⟨wr.heap.size, 0, none⟩ = some (.int .i64 f1) := by simp [World.cell?, hx0]
      have q1 : w2.cell? ⟨wr.heap.size, 1, none⟩ = some (.int .i64 f2) := by simp [World.cell?, hx0]
      have q2 : w2.cell? ⟨wr.heap.size, 2, none⟩ = some (.bool xb) := by simp [World.cell?, hx0]
      have q3 : w2.cell? ⟨wr.heap.size, 3, none⟩ = some (.string s) := by simp [World.cell?, hx0]
      have q4 : w2.cell? ⟨wr.heap.size, 4, none⟩ = some (.slice ad m c) := by simp [World.cell?, hx0]
      have q5 : w2.frozen? ⟨wr.heap.size, 4, none⟩ = false := by simp [World.frozen?, hx0]
      have hB3 : Below wr.heap.size wr (w2.setCell ⟨wr.heap.size, 4, none⟩ (.slice av nv cv)) := hB2.setCell (p := ⟨wr.heap.size, 4, none⟩) (by exact Nat.le_refl _) _
      have own3 := owns_below hown hB3
      have cop3 := hcop.below hB3
      have hbv3 : (w2.setCell ⟨wr.heap.size, 4, none⟩ (.slice av nv cv)).ownsRow w.heap.size 3 1 (.slice av nv cv) m (vsOf (intsL (d i).t (d i).bo m)) := ownsRow_setCell_other hbv (fun e => by
        obtain ⟨cs, fz, hc⟩ := Lib.ownsRow_kind hbv _ e
        rw [hx0] at hc
        simp at hc) _
      clear hgr hx0 hbv hl0 hrow2 p0 p1 p2 p3 p4
      go_wp2_with (first
        | (at_builtin; refine wpList_append_own _ rfl _ _ 22 rfl w.heap.size 27 i27 _ 5 64 underlying22 hi hz0 hz1 hz2 zz (by decide) _ _ _ rfl (own3.alloc _) ⟨w2.heap.size, 0, none⟩ 1 1 [.int .i64 f1, .int .i64 f2, .bool xb, .string s, .slice av nv cv] rfl rfl ?c1 ?c2 ?c3 ?c4 ?c5 ?_)
        | go_in)
      case c1 =>
        intro j u hj
        rw [add_adr, Nat.zero_add, cell_new _ _ _ _ (size_set _ _ _).symm]
        simpa using hj
      case c2 => intro u hu; simp at hu; rcases hu with rfl | rfl | rfl | rfl | rfl <;> rfl
      case c3 => unfold maxLen; omega
      case c4 => omega
      case c5 => have := hB2.size; simp; omega
      intro v' w4 hown4 hgr4 _
      have hal := World.grownBy_alloc (w2.setCell ⟨wr.heap.size, 4, none⟩ (.slice av nv cv)) (.cells #[.int .i64 f1, .int .i64 f2, .bool xb, .string s, .slice av nv cv] 27) v.ownBlock
      have own3a := own3.alloc (.cells #[.int .i64 f1, .int .i64 f2, .bool xb, .string s, .slice av nv cv] 27)
      have cop4 : CopOk w4 w.heap.size d i vs := (cop3.below ((Below.refl _ _).alloc (Nat.le_refl _) _)).kept hgr4 (fun k hk cs z hc => by
        obtain ⟨c', fz', hc'⟩ := Lib.ownsRow_kind own3a k hk
        rw [hc] at hc'
        simp at hc')
      have hbv4 := (hbv3.alloc (.cells #[.int .i64 f1, .int .i64 f2, .bool xb, .string s, .slice av nv cv] 27)).kept hgr4 (kinds_ne (hbv3.alloc _) own3a (by decide))
      have hbn' : (d i).bn.toNat = m := by omega
      have cop5 : CopOk w4 w.heap.size d (i + 1) (vs ++ [.int .i64 f1, .int .i64 f2, .bool xb, .string s, .slice av nv cv]) := by
        have := cop4.snoc (sv := .string s) (bv := .slice av nv cv) hstr (by rw [hbn']; exact hbv4) (by omega)
        rw [hf1, hf2, hxb] at this
        exact this
      have hbel4 : Below w.heap.size w w4 := ((hbel.trans (hB3.mono hsz)).alloc (by have := hB3.size; omega) _).grown hgr4 (by have := hB3.size; simp at this ⊢; omega) (fun q hq => (own3.lt q hq).1)
      clear hown cop3 own3 hbv3 hcop hgr4 hal own3a cop4 hbv4
      go_wp2
      go_roundw
      case rel => exact ⟨i + 1, _, _, by omega, by go_num, rfl, hown4, cop5, hbel4⟩
      case measure => simp [numOf'] <;> omega
    · have hin' : i = n := by omega
      subst hin'
      clear hM0
      go_wp2
      go_ret
      exact ⟨_, rfl, ⟨_, hown, hcop⟩, hbel⟩
end Go.Proofs.Tryz

namespace Go.Proofs.Tryz
open Go Go.Am Go.RowKit Go.Dr
set_option maxRecDepth 100000

/-- The four cells of a play's block. -/
theorem box4 {w : World} {b : Nat} {v0 v1 v2 v3 : Value} {e : TypeId} (h : w.heap[b]? = some (.cells #[v0, v1, v2, v3] e (0, 0))) :
    (w.cell? ⟨b, 0, none⟩ = some v0 ∧ w.cell? ⟨b, 1, none⟩ = some v1 ∧ w.cell? ⟨b, 2, none⟩ = some v2 ∧ w.cell? ⟨b, 3, none⟩ = some v3) ∧ w.frozen? ⟨b, 0, none⟩ = false ∧ w.frozen? ⟨b, 1, none⟩ = false ∧ w.frozen? ⟨b, 2, none⟩ = false ∧ w.frozen? ⟨b, 3, none⟩ = false := by
  refine ⟨⟨?_, ?_, ?_, ?_⟩, ?_, ?_, ?_, ?_⟩ <;> simp [World.cell?, World.frozen?, h]

section
variable {w : World} {lx : Bool} {d : Nat → MvD} {n : Nat} {s1 s2 : ByteArray} {mv : Value}
theorem copyPlay_w (hm : IsMoves w mv d n) (hn : n ≤ 6) (hb : ∀ i, i < n → (d i).bn ≤ 40) :
    Calls prog 73 #[.agg #[.string s1, .string s2, .bool lx, mv]] w fun e w' => ∃ v, e = .returned (.agg #[.string s1, .string s2, .bool lx, v]) ∧ OwnMoves w' w.heap.size v d n ∧ Below w.heap.size w w' := by
  obtain ⟨a0, c0, rfl, hnc, hM0⟩ := hm
  have hB : Below w.heap.size w ((w.alloc (.cells #[.string s1, .string s2, .bool lx, .slice a0 n c0] 24)).alloc (.cells #[.string ⟨#[]⟩, .string ⟨#[]⟩, .bool false, .slice none 0 0] 24)) := ((Below.refl _ _).alloc (Nat.le_refl _) _).alloc (by simp) _
  have cM := copyMoves_w (IsMoves.below ⟨a0, c0, rfl, hnc, hM0⟩ hB) hn hb
  clear hM0
  go_enter func73, ntmps73
  go_wp2_with (first
    | (go_at_call 19; refine cM.mono ?_; rintro e w2 ⟨v, rfl, hv, hk2⟩; obtain ⟨a1, k1, c1, rfl⟩ := hv.slice; obtain ⟨⟨x0, x1, x2, x3⟩, f0, f1, f2, f3⟩ := box4 ((hk2.block w.heap.size (by rw [size2]; omega)).trans (al2_0 _ _ _)); obtain ⟨⟨z0, z1, z2, z3⟩, g0, g1, g2, g3⟩ := box4 ((hk2.block (w.heap.size + 1) (by rw [size2]; omega)).trans (al2_1 _ _ _)))
    | go_in)
  have hB2 : Below w.heap.size w w2 := hB.trans (hk2.mono (by rw [size2]; omega))
  have hsz : w.heap.size + 2 ≤ w2.heap.size := by have := hk2.size; rw [size2] at this; exact this
  rw [size2] at hv
  have hv' := ((((hv.setCell (a := ⟨w.heap.size, 3, none⟩) (by simp) (.slice a1 k1 c1)).setCell (a := ⟨w.heap.size + 1, 0, none⟩) (by simp) (.string s1)).setCell (a := ⟨w.heap.size + 1, 1, none⟩) (by simp) (.string s2)).setCell (a := ⟨w.heap.size + 1, 2, none⟩) (by simp) (.bool lx)).setCell (a := ⟨w.heap.size + 1, 3, none⟩) (by simp) (.slice a1 k1 c1)
  refine bodyPost_ret (v := .agg #[.string s1, .string s2, .bool lx, .slice a1 k1 c1]) (by simp [results, results73, go_sem, World.cell?_setCell_same, z0, z1, z2, z3]) rfl ⟨_, rfl, hv'.mono (by omega), ((((hB2.setCell (p := ⟨w.heap.size, 3, none⟩) (by simp) _).setCell (p := ⟨w.heap.size + 1, 0, none⟩) (by simp) _).setCell (p := ⟨w.heap.size + 1, 1, none⟩) (by simp) _).setCell (p := ⟨w.heap.size + 1, 2, none⟩) (by simp) _).setCell (p := ⟨w.heap.size + 1, 3, none⟩) (by simp) _⟩

theorem copied_w (hm : IsMoves w mv d n) (hn : n ≤ 6) (hb : ∀ i, i < n → (d i).bn ≤ 40) :
    Calls prog 16 #[.agg #[.string s1, .string s2, .bool lx, mv]] w fun e w' => ∃ v, e = .returned (.agg #[.string s1, .string s2, .bool lx, v]) ∧ IsMoves w' v d n ∧ Below w.heap.size w w' := by
  obtain ⟨a0, c0, rfl, hnc, hM0⟩ := hm
  have hB : Below w.heap.size w ((w.alloc (.cells #[.string s1, .string s2, .bool lx, .slice a0 n c0] 24)).alloc (.cells #[.string ⟨#[]⟩, .string ⟨#[]⟩, .bool false, .slice none 0 0] 24)) := ((Below.refl _ _).alloc (Nat.le_refl _) _).alloc (by simp) _
  have cM := copyPlay_w (s1 := s1) (s2 := s2) (lx := lx) (IsMoves.below ⟨a0, c0, rfl, hnc, hM0⟩ hB) hn hb
  clear hM0
  go_enter func16, ntmps16
  go_wp2_with (first
    | (go_at_call 73; refine cM.mono ?_; rintro e w2 ⟨v, rfl, hv, hk2⟩; obtain ⟨a1, k1, c1, rfl⟩ := hv.slice; obtain ⟨⟨x0, x1, x2, x3⟩, f0, f1, f2, f3⟩ := box4 ((hk2.block w.heap.size (by rw [size2]; omega)).trans (al2_0 _ _ _)); obtain ⟨⟨z0, z1, z2, z3⟩, g0, g1, g2, g3⟩ := box4 ((hk2.block (w.heap.size + 1) (by rw [size2]; omega)).trans (al2_1 _ _ _)))
    | go_in)
  have hB2 : Below w.heap.size w w2 := hB.trans (hk2.mono (by rw [size2]; omega))
  rw [size2] at hv
  have hv' := (((hv.setCell (a := ⟨w.heap.size + 1, 0, none⟩) (by simp) (.string s1)).setCell (a := ⟨w.heap.size + 1, 1, none⟩) (by simp) (.string s2)).setCell (a := ⟨w.heap.size + 1, 2, none⟩) (by simp) (.bool lx)).setCell (a := ⟨w.heap.size + 1, 3, none⟩) (by simp) (.slice a1 k1 c1)
  refine bodyPost_ret (v := .agg #[.string s1, .string s2, .bool lx, .slice a1 k1 c1]) (by simp [results, results16, go_sem, World.cell?_setCell_same, z0, z1, z2, z3]) rfl ⟨_, rfl, hv'.is, (((hB2.setCell (p := ⟨w.heap.size + 1, 0, none⟩) (by simp) _).setCell (p := ⟨w.heap.size + 1, 1, none⟩) (by simp) _).setCell (p := ⟨w.heap.size + 1, 2, none⟩) (by simp) _).setCell (p := ⟨w.heap.size + 1, 3, none⟩) (by simp) _⟩
end
end Go.Proofs.Tryz

namespace Go.Proofs.Tryz
open Go Go.Am Go.RowKit Go.Dr
set_option maxRecDepth 100000

/-- A block as it lies. -/
def At (w : World) (b : Nat) (cs : Array Value) (e : TypeId) : Prop := w.heap[b]? = some (.cells cs e (0, 0))
theorem At.below {w W : World} {b : Nat} {cs : Array Value} {e : TypeId} (h : At w b cs e) {B : Nat} (hb : Below B w W) (hB : b < B) : At W b cs e := (hb.block b hB).trans h
theorem At.alloc {w : World} {b : Nat} {cs : Array Value} {e : TypeId} (h : At w b cs e) (o : Obj) : At (w.alloc o) b cs e := old1 h o
theorem At.lt {w : World} {b : Nat} {cs : Array Value} {e : TypeId} (h : At w b cs e) : b < w.heap.size := lt_of_block h
theorem at2_0 (w : World) (A Z : Array Value) (e f : TypeId) : At ((w.alloc (.cells A e)).alloc (.cells Z f)) w.heap.size A e := al2_0 _ _ _
theorem at2_1 (w : World) (A Z : Array Value) (e f : TypeId) : At ((w.alloc (.cells A e)).alloc (.cells Z f)) (w.heap.size + 1) Z f := al2_1 _ _ _
theorem at_new (w : World) (A : Array Value) (e : TypeId) : At (w.alloc (.cells A e)) w.heap.size A e := heap_alloc_new _ _
theorem At.setCell {w : World} {b : Nat} {cs : Array Value} {e : TypeId} (h : At w b cs e) {a : Addr} (ha : b ≠ a.block) (u : Value) : At (w.setCell a u) b cs e := (Below.heap_setCell _ _ _ _ ha).trans h
theorem At.drew {w : World} {b : Nat} {cs : Array Value} {e : TypeId} (h : At w b cs e) : At w.drew b cs e := h
theorem box5 {w : World} {b : Nat} {v0 v1 v2 v3 v4 : Value} {e : TypeId} (h : At w b #[v0, v1, v2, v3, v4] e) :
    (w.cell? ⟨b, 0, none⟩ = some v0 ∧ w.cell? ⟨b, 1, none⟩ = some v1 ∧ w.cell? ⟨b, 2, none⟩ = some v2 ∧ w.cell? ⟨b, 3, none⟩ = some v3 ∧ w.cell? ⟨b, 4, none⟩ = some v4) ∧ w.frozen? ⟨b, 0, none⟩ = false ∧ w.frozen? ⟨b, 1, none⟩ = false ∧ w.frozen? ⟨b, 2, none⟩ = false ∧ w.frozen? ⟨b, 3, none⟩ = false ∧ w.frozen? ⟨b, 4, none⟩ = false := by
  unfold At at h
  refine ⟨⟨?_, ?_, ?_, ?_, ?_⟩, ?_, ?_, ?_, ?_, ?_⟩ <;> simp [World.cell?, World.frozen?, h]

theorem At.set {w : World} {b : Nat} {cs : Array Value} {e : TypeId} (h : At w b cs e) (i : Nat) (u : Value) : At (w.setCell ⟨b, i, none⟩ u) b (cs.setIfInBounds i u) e := by
  unfold At at h ⊢
  have hb := lt_of_block h
  simp only [World.setCell, Array.getElem?_modify, h]
  simp
/-- A play's check, in whatever later world. -/
def Chk (w : World) (p : Value) (pl : Int) : Prop := ∀ W, Below w.heap.size w W → Calls prog 15 #[p] W fun e w' => e = .returned (.int .i64 pl) ∧ Below W.heap.size W w'
theorem chk_of {w : World} {y0 y1 : Int → Int} {yo yn eo en lx : Int} {d : Nat → MvD} {n : Nat} {pvv ev mv : Value} (h : Laid w) (hp : IsStr pvv y0 yo yn) (he : IsStr ev y1 eo en) (hm : IsMoves w mv d n) :
    Chk w (.agg #[pvv, ev, .bool (decide (lx ≠ 0)), mv]) (plV y0 yo yn y1 eo en d n) := fun _ hb => chk_w (h.below hb) hp he (hm.below hb)

section
variable {w : World} {pl x : Int} {lx : Bool} {pvv ev : Value} {ad0 : Option Addr} {n c : Nat}
end
end Go.Proofs.Tryz

namespace Go.Proofs.Tryz
open Go Go.Am Go.RowKit Go.Dr
set_option maxRecDepth 100000

/-- Who made the putouts of the first moves. -/
def lastT (m : MvD) : Int := m.t (m.bo + ((m.bn.toNat - 1 : Nat) : Int))
def putK (d : Nat → MvD) : Nat → List Int
  | 0 => []
  | i + 1 => putK d i ++ (if (d i).x = 0 then [] else [lastT (d i)])
section
variable {w : World} {pl x : Int} {lx : Bool} {pvv ev : Value} {ad0 : Option Addr} {n c : Nat}
end

end Go.Proofs.Tryz

namespace Go.Proofs.Tryz
open Go Go.Am Go.RowKit Go.Dr
set_option maxRecDepth 100000

section
variable (t : Int → Int) (o : Int)
end
end Go.Proofs.Tryz

namespace Go.Proofs.Tryz
open Go Go.Am Go.RowKit Go.Dr
set_option maxRecDepth 100000

/-- A play that Short takes. -/
def ShortP (yn en : Int) (d : Nat → MvD) (n : Nat) : Prop := yn ≤ 26 ∧ en ≤ 20 ∧ n ≤ 6 ∧ ∀ i, i < n → (d i).sn ≤ 20 ∧ (d i).bn ≤ 40
def ShortR (yn en : Int) (d : Nat → MvD) (n : Nat) (e : Ending) : Prop := ∃ r : Bool, e = .returned (.bool r) ∧ (r = true ↔ ShortP yn en d n)
theorem str_size {s : ByteArray} {y : Int → Int} {o n : Int} (h : IsStr (.string s) y o n) : (s.size : Int) = n := by
  obtain ⟨l, e, h1, -⟩ := h
  cases e
  rw [← h1]
  show ((l.toArray.size : Nat) : Int) = _
  simp

section
variable {w : World} {y0 y1 : Int → Int} {yo yn eo en : Int} {lx : Bool} {d : Nat → MvD} {n : Nat} {s1 s2 : ByteArray} {mv : Value}
theorem shortR_w (hp : IsStr (.string s1) y0 yo yn) (he : IsStr (.string s2) y1 eo en) (hm : IsMoves w mv d n) :
    Calls prog 14 #[.agg #[.string s1, .string s2, .bool lx, mv]] w fun e w' => ShortR yn en d n e ∧ Below w.heap.size w w' := by
  have e1 := str_size hp
  have e2 := str_size he
  obtain ⟨ad0, c0, rfl, hnc, hM0⟩ := hm
  have al := (Below.refl w.heap.size w).alloc (Nat.le_refl _) (.cells #[.string s1, .string s2, .bool lx, .slice ad0 n c0] 24)
  by_cases h1 : (26 : Int) < (s1.size : Int)
  · have hno : ¬ ShortP yn en d n := fun h => by have := h.1; omega
    clear e1 e2
    go_enter func14, ntmps14
    go_wp2
    go_ret
    exact ⟨⟨false, rfl, fun h => (by cases h), fun h => absurd h hno⟩, al⟩
  by_cases h2 : (20 : Int) < (s2.size : Int)
  · have hno : ¬ ShortP yn en d n := fun h => by have := h.2.1; omega
    clear e1 e2
    go_enter func14, ntmps14
    go_wp2
    go_ret
    exact ⟨⟨false, rfl, fun h => (by cases h), fun h => absurd h hno⟩, al⟩
  by_cases h3 : (6 : Int) < (n : Int)
  · have hno : ¬ ShortP yn en d n := fun h => by have := h.2.2.1; omega
    clear e1 e2
    go_enter func14, ntmps14
    go_wp2
    go_ret
    exact ⟨⟨false, rfl, fun h => (by cases h), fun h => absurd h hno⟩, al⟩
  have h12 : yn ≤ 26 ∧ en ≤ 20 := ⟨by omega, by omega⟩
  clear e1 e2
  go_enter func14, ntmps14
  go_wp2
  go_loopw [2, 3] (fun r s wr => ∃ i : Nat, i ≤ n ∧ s = .int .i64 i ∧ r = .bool false ∧ (∀ j, j < i → (d j).sn ≤ 20 ∧ (d j).bn ≤ 40) ∧ At wr w.heap.size #[.string s1, .string s2, .bool lx, .slice ad0 n c0] 24 ∧ Below w.heap.size w wr) (fun _ s _ => n - (numOf' s).toNat)
  case atStart => exact ⟨0, Nat.zero_le _, rfl, rfl, fun j hj => by omega, at_new _ _ _, al⟩
  case round =>
    obtain ⟨i, hi, rfl, rfl, hall, hbox, hbel⟩ := hrel
    have hc3 : wr.cell? ⟨w.heap.size, 3, none⟩ = some (.slice ad0 n c0) := (box4 hbox).1.2.2.2
    by_cases hin : i < n
    · obtain ⟨b, off, rfl, hM⟩ := hM0 (by omega)
      obtain ⟨s, ad, m, c, hmv⟩ := mv_at ((hM i hin).below hbel)
      obtain ⟨p0, p1, p2, p3, p4, hs, -, hbn, -⟩ := hmv
      have hsn := str_size hs
      clear hM hM0 p0 p1 p2 hs
      by_cases h4 : (20 : Int) < (s.size : Int)
      · have hno : ¬ ShortP yn en d n := fun h => by have := (h.2.2.2 i hin).1; omega
        clear hsn hbn
        go_wp2
        go_ret
        exact ⟨⟨false, rfl, fun h => (by cases h), fun h => absurd h hno⟩, hbel⟩
      by_cases h5 : (40 : Int) < (m : Int)
      · have hno : ¬ ShortP yn en d n := fun h => by have := (h.2.2.2 i hin).2; omega
        clear hsn hbn
        go_wp2
        go_ret
        exact ⟨⟨false, rfl, fun h => (by cases h), fun h => absurd h hno⟩, hbel⟩
      have hall' : ∀ j, j < i + 1 → (d j).sn ≤ 20 ∧ (d j).bn ≤ 40 := fun j hj => by
        by_cases hji : j = i
        · subst hji; exact ⟨by omega, by omega⟩
        · exact hall j (by omega)
      clear hsn hbn hall
      go_wp2
      go_roundw
      case rel => exact ⟨i + 1, by omega, by go_num, rfl, hall', hbox, hbel⟩
      case measure => simp [numOf'] <;> omega
    · have hin' : i = n := by omega
      subst hin'
      clear hM0
      go_wp2
      go_ret
      exact ⟨⟨true, rfl, fun _ => ⟨h12.1, h12.2, by omega, hall⟩, fun _ => rfl⟩, hbel⟩
theorem short_yes (hp : IsStr (.string s1) y0 yo yn) (he : IsStr (.string s2) y1 eo en) (hm : IsMoves w mv d n) (h : ShortP yn en d n) :
    Calls prog 14 #[.agg #[.string s1, .string s2, .bool lx, mv]] w fun e w' => e = .returned (.bool true) ∧ Below w.heap.size w w' := by
  refine (shortR_w hp he hm).mono ?_
  rintro e w' ⟨⟨r, rfl, hr⟩, hB⟩
  exact ⟨by rw [hr.2 h], hB⟩
theorem short_no (hp : IsStr (.string s1) y0 yo yn) (he : IsStr (.string s2) y1 eo en) (hm : IsMoves w mv d n) (h : ¬ ShortP yn en d n) :
    Calls prog 14 #[.agg #[.string s1, .string s2, .bool lx, mv]] w fun e w' => e = .returned (.bool false) ∧ Below w.heap.size w w' := by
  refine (shortR_w hp he hm).mono ?_
  rintro e w' ⟨⟨r, rfl, hr⟩, hB⟩
  cases r with
  | false => exact ⟨rfl, hB⟩
  | true => exact absurd (hr.1 rfl) h
end

theorem hasB13 : f13.body.isSome = true := by kernel_rfl
theorem fn13 : cx.fn 13 = some f13 := by kernel_rfl
theorem awake_w {w : World} (h : Laid w) : Calls prog 13 #[] w fun e w' => e = .returned (.bool true) ∧ Below w.heap.size w w' := by
  obtain ⟨c, hc⟩ := Option.isSome_iff_exists.1 hasB13
  refine (CallRet.calls fn13 hc (awake h)).mono ?_
  rintro e w' ⟨v, rfl, rfl, hk⟩
  exact ⟨rfl, belowOf hk⟩

section
variable {w : World} {pl : Int} {lx : Bool} {pvv ev : Value} {ad0 : Option Addr} {n c : Nat}
end
end Go.Proofs.Tryz

namespace Go.Proofs.Tryz
open Go Go.Am Go.RowKit Go.Dr
set_option maxRecDepth 100000

end Go.Proofs.Tryz

namespace Go.Proofs.Tryz
open Go Go.Am Go.RowKit Go.Dr
set_option maxRecDepth 100000

/-- The five cells of a move. -/
def csOf (w : World) (b off : Nat) (i : Nat) : List Value := (cellsAt w b (off + 5 * i) 5).filterMap id
theorem cs_of {w : World} {b off i : Nat} {m : MvD} (h : IsMv w (cellsAt w b (off + 5 * i) 5) m) : ∃ f1 f2 xb s a k c, csOf w b off i = [.int .i64 f1, .int .i64 f2, .bool xb, .string s, .slice a k c] ∧ cellsAt w b (off + 5 * i) 5 = (csOf w b off i).map some ∧
    m.fr = f1 ∧ m.to = f2 ∧ decide (m.x ≠ 0) = xb ∧ IsStr (.string s) m.y m.so m.sn ∧ IsInts w (.slice a k c) m.t m.bo m.bn := by
  obtain ⟨sv, bv, e, ⟨l, rfl, hl1, hl2⟩, hb⟩ := h
  have hb' := hb
  obtain ⟨a, k, c, rfl, -, -, -⟩ := hb
  have ec : csOf w b off i = [vi m.fr, vi m.to, .bool (decide (m.x ≠ 0)), .string ⟨l.toArray⟩, .slice a k c] := by unfold csOf; rw [e]; rfl
  exact ⟨_, _, _, _, a, k, c, ec, by rw [ec, e]; rfl, rfl, rfl, rfl, ⟨l, rfl, hl1, hl2⟩, hb'⟩

def one (q : MvD → Bool) (m : MvD) : Int := if q m = true then 1 else 0
section
variable {w : World} {n c : Nat} {ad : Option Addr} {d : Nat → MvD}
end
end Go.Proofs.Tryz

namespace Go.Proofs.Tryz
open Go Go.Am Go.RowKit Go.Dr
set_option maxRecDepth 100000

theorem mvs_desc (d : Nat → MvD) : ∀ (n i : Nat), mvsV d n i = 0 → ∀ j, i ≤ j → j < i + n → 0 < j → (d j).fr < (d (j - 1)).fr
  | 0, i, _, j, h1, h2, _ => by omega
  | n + 1, i, h, j, h1, h2, h3 => by
    unfold mvsV at h
    by_cases hc : (d i).check = 0
    · rw [if_pos hc] at h
      by_cases ho : 0 < i ∧ (d (i - 1)).fr ≤ (d i).fr
      · rw [if_pos ho] at h; cases h
      · rw [if_neg ho] at h
        by_cases hj : j = i
        · subst hj
          have : ¬ (d (j - 1)).fr ≤ (d j).fr := fun q => ho ⟨h3, q⟩
          omega
        · exact mvs_desc d n (i + 1) h j (by omega) (by omega) h3
    · rw [if_neg hc] at h; exact absurd h hc

/-- All that is known of the moves of a valid play. -/
structure ValP (d : Nat → MvD) (n : Nat) : Prop where
  v : Val d n
  to : ∀ i, i < n → 1 ≤ (d i).to ∧ (d i).to ≤ 4
  desc : ∀ i j, i < j → j < n → (d j).fr < (d i).fr
theorem valP_of {y0 y1 : Int → Int} {yo yn eo en : Int} {d : Nat → MvD} {n : Nat} (h : plV y0 yo yn y1 eo en d n = 0) (hb : ∀ i, i < n → 0 ≤ (d i).bn) : ValP d n := by
  obtain ⟨h1, h2⟩ := val_of h hb
  refine ⟨h1, h2, ?_⟩
  unfold plV at h
  by_cases p1 : pitV y0 yo yn = 0
  case neg => rw [if_neg p1] at h; exact absurd h p1
  rw [if_pos p1] at h
  by_cases p2 : evOk y1 eo en = true
  case neg => rw [if_neg p2] at h; cases h
  rw [if_pos p2, if_pos h1.n4] at h
  have hd := mvs_desc d n 0 h
  intro i j hij hj
  induction j with
  | zero => omega
  | succ j ih =>
    have a := hd (j + 1) (Nat.zero_le _) (by omega) (by omega)
    simp only [Nat.add_sub_cancel] at a
    by_cases e : i = j
    · subst e; exact a
    · have := ih (by omega) (by omega); omega
/-! ### the putouts -/
/-! ### the assists -/
/-! ### the touches -/
end Go.Proofs.Tryz
