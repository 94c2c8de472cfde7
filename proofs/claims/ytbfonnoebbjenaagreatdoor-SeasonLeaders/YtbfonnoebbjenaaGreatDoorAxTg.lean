/- A row of the call's own written in place. A total added to totals in order, by the reference: by the kit's walk. The lines of games added to totals, by the reference: by the kit's walk. A book checked by the season: by the kit's walk. The season's map of totals: a line added: by the kit's walk. The season's map of totals: the lines of games added: by the kit's walk. The season's list of a map of totals, up to the sort: by the kit's walk. -/
import Derived.Test.YtbfonnoebbjenaaGreatDoorAxS
import Derived.Maps.Own
import Derived.Maps.Views
import Derived.Maps.RangeWalk
import Derived.Handy
namespace Go.Proofs.Tryz
open Go Go.Am Go.RowKit Go.Op
set_option maxRecDepth 100000

theorem flatR_set {m : Nat} : ∀ {l : List (List Value)} {i j : Nat} {x : List Value} {u : Value}, (∀ y ∈ l, y.length = m) → l[i]? = some x → j < m → flatR (l.set i (x.set j u)) = (flatR l).set (i * m + j) u
  | [], _, _, _, _, _, h, _ => by simp at h
  | y :: l, 0, j, x, u, hm, h, hj => by
    simp only [List.getElem?_cons_zero, Option.some.injEq] at h
    subst h
    have hy := hm y (by simp)
    rw [List.set_cons_zero, Nat.zero_mul, Nat.zero_add]
    show (y.set j u ++ l.flatten) = (y ++ l.flatten).set j u
    rw [List.set_append_left _ _ (by omega)]
  | y :: l, i + 1, j, x, u, hm, h, hj => by
    simp only [List.getElem?_cons_succ] at h
    have ih := flatR_set (u := u) (fun z hz => hm z (by simp [hz])) h hj
    have hy := hm y (by simp)
    rw [List.set_cons_succ]
    show y ++ (l.set i (x.set j u)).flatten = (y ++ l.flatten).set ((i + 1) * m + j) u
    have e : (i + 1) * m + j = y.length + (i * m + j) := by rw [hy, Nat.add_mul]; omega
    rw [e, List.set_append_right _ _ (by omega), Nat.add_sub_cancel_left]
    exact congrArg _ ih
theorem OwnRow.own {w : World} {base e m : Nat} {v : Value} {l : List (List Value)} (h : OwnRow w base e m v l) {i : Nat} (hi : i < l.length) : ∃ g cap, v = .slice (some ⟨g, 0, none⟩) l.length cap ∧ base ≤ g ∧ l.length ≤ cap := by
  rcases h.1.2 with ⟨rfl, h0⟩ | ⟨g, cap, cur, rfl, h1, h2, h3, h4⟩
  · omega
  · exact ⟨g, cap, rfl, h1, h3⟩
theorem OwnRow.cell {w : World} {base e m g n cap : Nat} {l : List (List Value)} (h : OwnRow w base e m (.slice (some ⟨g, 0, none⟩) n cap) l) {i j : Nat} {x : List Value} {u : Value} (hx : l[i]? = some x) (hu : x[j]? = some u) : w.cell? ⟨g, i * m + j, none⟩ = some u ∧ w.frozen? ⟨g, i * m + j, none⟩ = false := by
  rcases h.1.2 with ⟨e0, h0⟩ | ⟨g', cap', cur, e0, h1, h2, h3, h4, h5, h6⟩
  · cases e0
  · simp only [Value.slice.injEq, Option.some.injEq, Addr.mk.injEq, and_true] at e0
    obtain ⟨rfl, rfl, rfl⟩ := e0
    have hq := flatR_get h.2 hx hu
    have hlt := (List.getElem?_eq_some_iff.1 hq).1
    have hc := h.1.cellAt (i * m + j) (by rw [← h.1.1]; exact hlt)
    refine ⟨hc.trans hq, ?_⟩
    unfold World.frozen?
    rw [h2]
    simp
theorem OwnRow.write {w : World} {base e m g n cap : Nat} {l : List (List Value)} (h : OwnRow w base e m (.slice (some ⟨g, 0, none⟩) n cap) l) {i j : Nat} {x : List Value} (hx : l[i]? = some x) (hj : j < m) (u : Value) : OwnRow (w.setCell ⟨g, i * m + j, none⟩ u) base e m (.slice (some ⟨g, 0, none⟩) n cap) (l.set i (x.set j u)) := by
  have hm := h.2
  have hxm : x.length = m := hm x (List.mem_of_getElem? hx)
  rcases h.1.2 with ⟨e0, h0⟩ | ⟨g', cap', cur, e0, h1, h2, h3, h4, h5, h6⟩
  · cases e0
  · simp only [Value.slice.injEq, Option.some.injEq, Addr.mk.injEq, and_true] at e0
    obtain ⟨rfl, rfl, rfl⟩ := e0
    refine ⟨⟨?_, .inr ⟨g, cap, cur.setIfInBounds (i * m + j) u, by rw [List.length_set], h1, ?_, by rw [List.length_set]; exact h3, h4, by simpa using h5, ?_⟩⟩, fun y hy => ?_⟩
    · rw [flatR_set hm hx hj, List.length_set, List.length_set]; exact h.1.1
    · simp only [World.setCell, Array.getElem?_modify, h2]
      simp
    · rw [flatR_set hm hx hj, ← h6, Array.toList_setIfInBounds, List.length_set, List.take_set]
    · rcases List.mem_or_eq_of_mem_set hy with hy | rfl
      · exact hm y hy
      · rw [List.length_set]; exact hxm
/-- Cells written one behind the other. -/
def setN (w : World) (b : Nat) : Nat → List Value → World
  | _, [] => w
  | o, v :: r => setN (w.setCell ⟨b, o, none⟩ v) b (o + 1) r
def splice (x : List Value) : Nat → List Value → List Value
  | _, [] => x
  | j, v :: r => splice (x.set j v) (j + 1) r
theorem OwnRow.writes {base e m g n cap i : Nat} : ∀ {vs : List Value} {w : World} {l : List (List Value)} {x : List Value} {j : Nat}, OwnRow w base e m (.slice (some ⟨g, 0, none⟩) n cap) l → l[i]? = some x → j + vs.length ≤ m →
    OwnRow (setN w g (i * m + j) vs) base e m (.slice (some ⟨g, 0, none⟩) n cap) (l.set i (splice x j vs))
  | [], w, l, x, j, h, hx, _ => by
    have hi := (List.getElem?_eq_some_iff.1 hx).1
    have e : l.set i x = l := by
      apply List.ext_getElem?
      intro k
      by_cases hk : k = i
      · subst hk; rw [List.getElem?_set_self hi, hx]
      · rw [List.getElem?_set_ne (fun q => hk q.symm)]
    unfold splice setN
    rw [e]; exact h
  | v :: r, w, l, x, j, h, hx, hj => by
    simp only [List.length_cons] at hj
    have h2 := h.write hx (j := j) (by omega) v
    have hi := (List.getElem?_eq_some_iff.1 hx).1
    have h3 := OwnRow.writes (vs := r) (j := j + 1) h2 (x := x.set j v) (by rw [List.getElem?_set_self hi]) (by omega)
    unfold splice setN
    rw [List.set_set] at h3
    exact h3
theorem setN_size' (b : Nat) : ∀ (vs : List Value) (w : World) (o : Nat), (setN w b o vs).heap.size = w.heap.size
  | [], _, _ => rfl
  | _ :: r, w, o => by rw [setN, setN_size' b r]; simp
theorem setN_size (w : World) (b o : Nat) (vs : List Value) : (setN w b o vs).heap.size = w.heap.size := setN_size' b vs w o
theorem Below.setN {B : Nat} {w0 : World} {b : Nat} (hb : B ≤ b) : ∀ {vs : List Value} {w : World} {o : Nat}, Below B w0 w → Below B w0 (Go.Proofs.Tryz.setN w b o vs)
  | [], _, _, h => h
  | _ :: r, _, _, h => Below.setN hb (vs := r) (h.setCell hb _)
end Go.Proofs.Tryz

namespace Go.Proofs.Tryz
open Go Go.Am Go.RowKit Go.Op
set_option maxRecDepth 100000

/-- What lay below base stays. -/
def Keeps (base : Nat) (w w' : World) : Prop := ∀ w0 : World, Below w0.heap.size w0 w → w0.heap.size ≤ base → Below w0.heap.size w0 w'
theorem Keeps.refl (base : Nat) (w : World) : Keeps base w w := fun _ h _ => h
theorem At.grown9 {w w' : World} {b e : Nat} {cs : Array Value} {base f m : Nat} {v : Value} (h : At w b cs e) (hv : ∀ q, v.ownBlock = some q → q < b) (hg : ∃ k xs, w.ownsRow base f m v k xs ∧ w.grownBy w' v.ownBlock) : At w' b cs e := by
  obtain ⟨k, xs, -, hg⟩ := hg
  unfold At at h ⊢
  rw [hg.block b (lt_of_block h) (fun e => by have := hv b e.symm; omega)]
  exact h
theorem castW {P : World → Prop} {w w' : World} (e : w = w') (h : P w') : P w := e ▸ h
theorem swap_sets {α : Type} (a b a' b' : α) (D : List α) : ∀ A : List α, ((A ++ a :: b :: D).set (A.length + 1) a').set A.length b' = A ++ b' :: a' :: D
  | [] => rfl
  | z :: A => by
    simp only [List.cons_append, List.length_cons, List.set_cons_succ]
    exact congrArg _ (swap_sets a b a' b' D A)
theorem swap_list {α : Type} {L : List α} {q : Nat} {x N : α} (hx : L[q]? = some x) : ((L.take (q + 1) ++ N :: L.drop (q + 1)).set (q + 1) x).set q N = L.take q ++ N :: L.drop q := by
  have hq := (List.getElem?_eq_some_iff.1 hx).1
  have e1 := take_snoc hx
  have e2 : L.drop q = x :: L.drop (q + 1) := by
    rw [List.drop_eq_getElem_cons hq, (List.getElem?_eq_some_iff.1 hx).2]
  have e3 : (L.take q).length = q := by rw [List.length_take]; omega
  have := swap_sets x N x N (L.drop (q + 1)) (L.take q)
  rw [e3] at this
  rw [e1, e2, List.append_assoc]
  exact this
theorem mid_get {α : Type} {L : List α} {q : Nat} {N : α} (hq : q ≤ L.length) : (L.take q ++ N :: L.drop q)[q]? = some N := by
  have e3 : (L.take q).length = q := by rw [List.length_take]; omega
  rw [List.getElem?_append_right (by omega), e3, Nat.sub_self]
  rfl
theorem mid_low {α : Type} {L : List α} {q : Nat} {N x : α} (hx : L[q]? = some x) : (L.take (q + 1) ++ N :: L.drop (q + 1))[q]? = some x := by
  have hq := (List.getElem?_eq_some_iff.1 hx).1
  have e3 : (L.take (q + 1)).length = q + 1 := by rw [List.length_take]; omega
  rw [List.getElem?_append_left (by omega), List.getElem?_take, if_pos (by omega), hx]
theorem app_step {o : Oper} {ops : Array Oper} {a : Act} {w w' : World} {v' : Value} {K : Act → World → Prop} {Q : Exit → Act → World → Prop} (hw : Region.wanted o (yielded ops a.tmps) = true) (hr : (execOp a.eval o).run prog w = .ok (.value v') w') (h : K (a.put o.dst v') w') :
    if Region.wanted o (yielded ops a.tmps) = true then o.wp prog a w K Q else K (a.put o.dst undef) w := by
  rw [if_pos hw]
  unfold Oper.wp
  rw [hr]
  exact h
theorem app_run {o : Oper} {a : Act} {s x : Operand} {t ty : TypeId} {v y v' : Value} {w w' : World} (ho : o.op = .call { callee := .builtin .append, args := #[s, x], argTypes := #[t, t] }) (hty : o.type = ty) (hs : a.eval s = v) (hx : a.eval x = y)
    (hr : (Builtin.append_ #[t, t] ty #[v, y]).run prog w = .ok v' w') : (execOp a.eval o).run prog w = .ok (.value v') w' := by
  unfold execOp
  simp only [ho, hty, resolve, invoke, builtin, Sem.run_bind, Sem.run_pure, Result.andThen_ok, List.map_toArray, List.map_cons, List.map_nil, hs, hx, hr]
end Go.Proofs.Tryz

namespace Go.Proofs.Tryz
open Go Go.Am Go.RowKit Go.Op
set_option maxRecDepth 100000

end Go.Proofs.Tryz

namespace Go.Proofs.Tryz
open Go Go.Am Go.RowKit Go.Op Go.Maps Go.WideMaps
set_option maxRecDepth 100000

/-! ### the map of the names that were seen -/
end Go.Proofs.Tryz

namespace Go.Proofs.Tryz
open Go Go.Am Go.RowKit Go.Op Go.Maps Go.WideMaps
set_option maxRecDepth 100000

end Go.Proofs.Tryz

namespace Go.Proofs.Tryz
open Go Go.Am Go.RowKit Go.Op Go.Maps Go.WideMaps
set_option maxRecDepth 100000

end Go.Proofs.Tryz

namespace Go.Proofs.Tryz
open Go Go.Am Go.RowKit Go.Op Go.Maps Go.WideMaps
set_option maxRecDepth 100000

/-- What has been collected so far. -/
structure GoodL (L : List Tot) (left : Lit → Bool) (Lo : List Tot) : Prop where
  nodup : Lo.Pairwise fun a b => a.p ≠ b.p
  mem : ∀ t, t ∈ Lo ↔ (t ∈ L ∧ nzT t = true ∧ left (.string t.p) = false)
  len : Lo.length ≤ L.length
end Go.Proofs.Tryz
