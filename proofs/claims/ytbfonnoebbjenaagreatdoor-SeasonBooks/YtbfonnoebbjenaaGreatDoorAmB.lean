/- The abstract machine: its trees. The abstract machine: how its values, blocks and states stand to the model's. -/
import Derived.Test.YtbfonnoebbjenaaGreatDoorAmA
import Derived.Laws.Cells
import Derived.Laws.World
import Derived.Laws.Sem
namespace Go.Am
namespace T
variable {α : Type}
theorem beq_true {a b : Nat} (h : a = b) : Nat.beq a b = true := by subst h; exact Nat.beq_refl a
theorem beq_false {a b : Nat} (h : a ≠ b) : Nat.beq a b = false := by
  cases e : Nat.beq a b
  · rfl
  · exact absurd (Nat.eq_of_beq_eq_true e) h
theorem get0 (v : Option α) (l r : T α) : (node v l r).get 0 = v := rfl
theorem get1 (v : Option α) (l r : T α) (k : Nat) : (node v l r).get (2 * k + 1) = l.get k := by
  show (bif Nat.beq (2 * k + 1) 0 then v else bif Nat.beq ((2 * k + 1) % 2) 1 then l.get ((2 * k + 1) / 2) else r.get ((2 * k + 1) / 2 - 1)) = _
  rw [beq_false (by omega), beq_true (by omega : (2 * k + 1) % 2 = 1), show (2 * k + 1) / 2 = k by omega]; rfl
theorem get2 (v : Option α) (l r : T α) (k : Nat) : (node v l r).get (2 * k + 2) = r.get k := by
  show (bif Nat.beq (2 * k + 2) 0 then v else bif Nat.beq ((2 * k + 2) % 2) 1 then l.get ((2 * k + 2) / 2) else r.get ((2 * k + 2) / 2 - 1)) = _
  rw [beq_false (by omega), beq_false (by omega : (2 * k + 2) % 2 ≠ 1), show (2 * k + 2) / 2 - 1 = k by omega]; rfl
def kids : T α → Option α × T α × T α
  | .nil => (none, .nil, .nil)
  | .node v l r => (v, l, r)
theorem put0 (f : Nat) (t : T α) (o : Option α) : put (f + 1) t 0 o = .node o t.kids.2.1 t.kids.2.2 := by cases t <;> rfl
theorem put1 (f : Nat) (t : T α) (o : Option α) (k : Nat) : put (f + 1) t (2 * k + 1) o = .node t.kids.1 (put f t.kids.2.1 k o) t.kids.2.2 := by
  cases t <;> simp only [put, kids] <;> rw [beq_false (by omega), beq_true (by omega : (2 * k + 1) % 2 = 1), show (2 * k + 1) / 2 = k by omega] <;> rfl
theorem put2 (f : Nat) (t : T α) (o : Option α) (k : Nat) : put (f + 1) t (2 * k + 2) o = .node t.kids.1 t.kids.2.1 (put f t.kids.2.2 k o) := by
  cases t <;> simp only [put, kids] <;> rw [beq_false (by omega), beq_false (by omega : (2 * k + 2) % 2 ≠ 1), show (2 * k + 2) / 2 - 1 = k by omega] <;> rfl
theorem kids0 (t : T α) : t.get 0 = t.kids.1 := by cases t <;> rfl
theorem kids1 (t : T α) (k : Nat) : t.get (2 * k + 1) = t.kids.2.1.get k := by
  cases t
  · rfl
  · exact get1 _ _ _ _
theorem kids2 (t : T α) (k : Nat) : t.get (2 * k + 2) = t.kids.2.2.get k := by
  cases t
  · rfl
  · exact get2 _ _ _ _
theorem form (n : Nat) : n = 0 ∨ (∃ k, n = 2 * k + 1) ∨ ∃ k, n = 2 * k + 2 := by
  rcases Nat.mod_two_eq_zero_or_one n with h | h
  · by_cases h0 : n = 0
    · exact .inl h0
    · exact .inr (.inr ⟨n / 2 - 1, by omega⟩)
  · exact .inr (.inl ⟨n / 2, by omega⟩)
theorem get_put : ∀ (f : Nat) (t : T α) (n m : Nat) (o : Option α), n < f → (put f t n o).get m = if m = n then o else t.get m := by
  intro f
  induction f with
  | zero => intro t n m o h; omega
  | succ f ih =>
    intro t n m o h
    rcases form n with rfl | ⟨k, rfl⟩ | ⟨k, rfl⟩ <;> rcases form m with rfl | ⟨j, rfl⟩ | ⟨j, rfl⟩
    · rw [put0, get0, if_pos rfl]
    · rw [put0, get1, kids1, if_neg (by omega)]
    · rw [put0, get2, kids2, if_neg (by omega)]
    · rw [put1, get0, kids0, if_neg (by omega)]
    · rw [put1, get1, kids1, ih _ _ _ _ (by omega)]
      by_cases e : j = k
      · rw [if_pos e, if_pos (by omega)]
      · rw [if_neg e, if_neg (by omega)]
    · rw [put1, get2, kids2, if_neg (by omega)]
    · rw [put2, get0, kids0, if_neg (by omega)]
    · rw [put2, get1, kids1, if_neg (by omega)]
    · rw [put2, get2, kids2, ih _ _ _ _ (by omega)]
      by_cases e : j = k
      · rw [if_pos e, if_pos (by omega)]
      · rw [if_neg e, if_neg (by omega)]
theorem get_set (t : T α) (n m : Nat) (o : Option α) : (t.set n o).get m = if m = n then o else t.get m := get_put _ _ _ _ _ (by omega)
theorem get_set_same (t : T α) (n : Nat) (o : Option α) : (t.set n o).get n = o := by rw [get_set, if_pos rfl]
theorem get_set_other (t : T α) {n m : Nat} (o : Option α) (h : m ≠ n) : (t.set n o).get m = t.get m := by rw [get_set, if_neg h]
end T
end Go.Am

namespace Go.Am

def All2 {α β : Type} (R : α → β → Prop) : List α → List β → Prop
  | [], [] => True
  | x :: xs, y :: ys => R x y ∧ All2 R xs ys
  | _, _ => False

namespace All2
variable {α β : Type} {R S : α → β → Prop}
theorem length : ∀ {l : List α} {m : List β}, All2 R l m → l.length = m.length
  | [], [], _ => rfl
  | _ :: _, _ :: _, h => by simp [length h.2]
  | [], _ :: _, h => h.elim
  | _ :: _, [], h => h.elim
theorem mono (hs : ∀ x y, R x y → S x y) : ∀ {l : List α} {m : List β}, All2 R l m → All2 S l m
  | [], [], _ => trivial
  | _ :: _, _ :: _, h => ⟨hs _ _ h.1, mono hs h.2⟩
  | [], _ :: _, h => h.elim
  | _ :: _, [], h => h.elim
theorem append : ∀ {l : List α} {m : List β} {l' : List α} {m' : List β}, All2 R l m → All2 R l' m' → All2 R (l ++ l') (m ++ m')
  | [], [], _, _, _, h => h
  | _ :: _, _ :: _, _, _, h, h' => ⟨h.1, append h.2 h'⟩
  | [], _ :: _, _, _, h, _ => h.elim
  | _ :: _, [], _, _, h, _ => h.elim
theorem drop : ∀ (n : Nat) {l : List α} {m : List β}, All2 R l m → All2 R (l.drop n) (m.drop n)
  | 0, _, _, h => h
  | _ + 1, [], [], _ => trivial
  | n + 1, _ :: _, _ :: _, h => drop n h.2
  | _ + 1, [], _ :: _, h => h.elim
  | _ + 1, _ :: _, [], h => h.elim
theorem take : ∀ (n : Nat) {l : List α} {m : List β}, All2 R l m → All2 R (l.take n) (m.take n)
  | 0, _, _, _ => trivial
  | _ + 1, [], [], _ => trivial
  | n + 1, _ :: _, _ :: _, h => ⟨h.1, take n h.2⟩
  | _ + 1, [], _ :: _, h => h.elim
  | _ + 1, _ :: _, [], h => h.elim
theorem get : ∀ {l : List α} {m : List β} (n : Nat) {x : α}, All2 R l m → l[n]? = some x → ∃ y, m[n]? = some y ∧ R x y
  | _ :: _, _ :: _, 0, _, h, e => ⟨_, rfl, by simp at e; exact e ▸ h.1⟩
  | _ :: _, _ :: _, n + 1, _, h, e => by simpa using get n h.2 (by simpa using e)
  | [], [], _, _, _, e => by simp at e
  | [], _ :: _, _, _, h, _ => h.elim
  | _ :: _, [], _, _, h, _ => h.elim
theorem get' : ∀ {l : List α} {m : List β} (n : Nat) {y : β}, All2 R l m → m[n]? = some y → ∃ x, l[n]? = some x ∧ R x y
  | _ :: _, _ :: _, 0, _, h, e => ⟨_, rfl, by simp at e; exact e ▸ h.1⟩
  | _ :: _, _ :: _, n + 1, _, h, e => by simpa using get' n h.2 (by simpa using e)
  | [], [], _, _, _, e => by simp at e
  | [], _ :: _, _, _, h, _ => h.elim
  | _ :: _, [], _, _, h, _ => h.elim
theorem map_sc {γ : Type} (f : γ → α) (g : γ → β) (h : ∀ x, R (f x) (g x)) : ∀ l : List γ, All2 R (l.map f) (l.map g)
  | [] => trivial
  | x :: l => ⟨h x, map_sc f g h l⟩
theorem self {R : α → α → Prop} (h : ∀ x, R x x) : ∀ l : List α, All2 R l l
  | [] => trivial
  | x :: l => ⟨h x, self h l⟩
end All2

/-- Where the call's own blocks lie: an id's block, and by how much its capacity is more than is known. -/
structure Be where
  m : Nat → Option (Nat × Nat)
  env : Env

instance : CoeFun Be fun _ => Nat → Option (Nat × Nat) := ⟨Be.m⟩

def adr (b off : Nat) : Value := .pointer (some ⟨b, off, none⟩)

def CRel (β : Be) : C → Value → Prop
  | .sc v, w => w = v
  | .sy k e, w => w = .int k (e.val β.env)
  | .sb e, w => w = .bool (decide (e.val β.env ≠ 0))
  | .slx e, w => ∃ (a : Option Addr) (n c : Nat), w = .slice a n c ∧ (n : Int) = e.val β.env
  | .stx e, w => ∃ s : ByteArray, w = .string s ∧ (s.size : Int) = e.val β.env
  | .osl k off len, w => ∃ c, len ≤ c ∧ w = .slice (some ⟨(β.env.out k).1, (β.env.out k).2 + off, none⟩) len c
  | .optr k off, w => w = adr (β.env.out k).1 ((β.env.out k).2 + off)
  | .ptr id off, w => ∃ b e, β id = some (b, e) ∧ w = adr b off
  | .sl id off len cap fx, w => ∃ b e, β id = some (b, e) ∧ w = .slice (some ⟨b, off, none⟩) len (bif fx then cap + e else cap)
  | .mp id, w => ∃ b e, β id = some (b, e) ∧ w = .map (some b)
  | .fn f caps, w => ∃ bs : List Nat, All2 (fun id b => ∃ e, β id = some (b, e)) caps bs ∧ w = .func (.func f) #[] (bs.map fun b => adr b 0).toArray
  | .unk, w => scal w = true

def ScalL (l : List Value) : Prop := ∀ x ∈ l, scal x = true

def ARel (β : Be) : A → Value → Prop
  | .c x, v => CRel β x v
  | .agg l, v => ∃ a : Array Value, v = .agg a ∧ All2 (CRel β) l a.toList ∧ ScalL a.toList

def VRel (β : Be) : V → Value → Prop
  | .a x, v => ARel β x v
  | .tup l, v => ∃ a : Array Value, v = .tuple a ∧ All2 (ARel β) l a.toList

def ERel (β : Be) (e : C × A × Nat) (m : MapEntry) : Prop := CRel β e.1 m.key ∧ ARel β e.2.1 m.val ∧ m.born = e.2.2

def ORel (cx : Cx) (β : Be) (ex : Nat) : O → Obj → Prop
  | .cells l t fx, ob => ∃ (cur : Array Value) (pre rest : List Value), ob = .cells cur t (0, 0) ∧ cur.toList = pre ++ rest ∧ All2 (CRel β) l pre ∧ ScalL cur.toList ∧
      (fx = false → rest = []) ∧ (fx = true → ∃ ty, cx.ty t = some ty ∧ rest.length = ex * ty.size)
  | .map es clock, ob => ∃ es' : Array MapEntry, ob = .map es' clock ∧ All2 (ERel β) es es'.toList
  | .sit s pos, ob => ob = .stringIter s pos
  | .mit none since seen last, ob => ob = .mapIter none since seen.toArray last
  | .mit (some m) since seen last, ob => ∃ b e, β m = some (b, e) ∧ ob = .mapIter (some b) since seen.toArray last

structure Ext (β β' : Be) : Prop where
  ids : ∀ i p, β i = some p → β' i = some p
  env : β'.env = β.env

theorem Ext.refl (β : Be) : Ext β β := ⟨fun _ _ h => h, rfl⟩
theorem Ext.trans {a b c : Be} (h : Ext a b) (h' : Ext b c) : Ext a c := ⟨fun i p e => h'.ids i p (h.ids i p e), h'.env.trans h.env⟩

theorem CRel.mono {β β' : Be} (h : Ext β β') : ∀ {x : C} {v : Value}, CRel β x v → CRel β' x v
  | .sc _, _, r => r
  | .sy _ _, _, r => by simp only [CRel, h.env]; exact r
  | .sb _, _, r => by simp only [CRel, h.env]; exact r
  | .slx _, _, r => by simp only [CRel, h.env]; exact r
  | .stx _, _, r => by simp only [CRel, h.env]; exact r
  | .osl _ _ _, _, r => by simp only [CRel, h.env]; exact r
  | .optr _ _, _, r => by simp only [CRel, h.env]; exact r
  | .ptr _ _, _, ⟨b, e, r, q⟩ => ⟨b, e, h.ids _ _ r, q⟩
  | .sl _ _ _ _ _, _, ⟨b, e, r, q⟩ => ⟨b, e, h.ids _ _ r, q⟩
  | .mp _, _, ⟨b, e, r, q⟩ => ⟨b, e, h.ids _ _ r, q⟩
  | .fn _ _, _, ⟨bs, r, q⟩ => ⟨bs, r.mono fun _ _ ⟨e, he⟩ => ⟨e, h.ids _ _ he⟩, q⟩
  | .unk, _, r => r
theorem ARel.mono {β β' : Be} (h : Ext β β') : ∀ {x : A} {v : Value}, ARel β x v → ARel β' x v
  | .c _, _, r => CRel.mono h r
  | .agg _, _, ⟨a, e, r, s⟩ => ⟨a, e, r.mono fun _ _ => CRel.mono h, s⟩
theorem VRel.mono {β β' : Be} (h : Ext β β') : ∀ {x : V} {v : Value}, VRel β x v → VRel β' x v
  | .a _, _, r => ARel.mono h r
  | .tup _, _, ⟨a, e, r⟩ => ⟨a, e, r.mono fun _ _ => ARel.mono h⟩
theorem ERel.mono {β β' : Be} (h : Ext β β') {x : C × A × Nat} {m : MapEntry} (r : ERel β x m) : ERel β' x m := ⟨CRel.mono h r.1, ARel.mono h r.2.1, r.2.2⟩
theorem ORel.mono {cx : Cx} {β β' : Be} {ex : Nat} (h : Ext β β') : ∀ {o : O} {ob : Obj}, ORel cx β ex o ob → ORel cx β' ex o ob
  | .cells _ _ _, _, ⟨cur, pre, rest, e1, e2, r, s, q, t⟩ => ⟨cur, pre, rest, e1, e2, r.mono fun _ _ => CRel.mono h, s, q, t⟩
  | .map _ _, _, ⟨es', e, r⟩ => ⟨es', e, r.mono fun _ _ => ERel.mono h⟩
  | .sit _ _, _, r => r
  | .mit none _ _ _, _, r => r
  | .mit (some _) _ _ _, _, ⟨b, e, r, q⟩ => ⟨b, e, h.ids _ _ r, q⟩

theorem E.same_eq : ∀ {a b : E}, a.same b = true → a = b
  | .var _, .var _, h => by rw [Nat.eq_of_beq_eq_true h]
  | .lit _, .lit _, h => by rw [of_decide_eq_true h]
  | .add _ _, .add _ _, h => by simp only [E.same, Bool.and_eq_true] at h; rw [E.same_eq h.1, E.same_eq h.2]
  | .sub _ _, .sub _ _, h => by simp only [E.same, Bool.and_eq_true] at h; rw [E.same_eq h.1, E.same_eq h.2]
  | .mul _ _, .mul _ _, h => by simp only [E.same, Bool.and_eq_true] at h; rw [E.same_eq h.1, E.same_eq h.2]
  | .quo _ _, .quo _ _, h => by simp only [E.same, Bool.and_eq_true] at h; rw [E.same_eq h.1, E.same_eq h.2]
  | .rem _ _, .rem _ _, h => by simp only [E.same, Bool.and_eq_true] at h; rw [E.same_eq h.1, E.same_eq h.2]
  | .max _ _, .max _ _, h => by simp only [E.same, Bool.and_eq_true] at h; rw [E.same_eq h.1, E.same_eq h.2]
  | .min _ _, .min _ _, h => by simp only [E.same, Bool.and_eq_true] at h; rw [E.same_eq h.1, E.same_eq h.2]
  | .wrap _ _, .wrap _ _, h => by simp only [E.same, Bool.and_eq_true] at h; rw [of_decide_eq_true h.1, E.same_eq h.2]
  | .app _ _, .app _ _, h => by simp only [E.same, Bool.and_eq_true] at h; rw [Nat.eq_of_beq_eq_true h.1, E.same_eq h.2]
  | .pair _ _, .pair _ _, h => by simp only [E.same, Bool.and_eq_true] at h; rw [E.same_eq h.1, E.same_eq h.2]
  | .nil, .nil, _ => rfl

theorem bnd_ok {ρ : Env} {f : Tst} {v : Bool} {y : E} {lo hi : Option Int} (hf : f.holds ρ = v) (h : bnd f v = some (y, lo, hi)) : (∀ l, lo = some l → l ≤ y.val ρ) ∧ ∀ u, hi = some u → y.val ρ ≤ u := by
  unfold bnd at h
  split at h <;> simp only [Option.some.injEq, Prod.mk.injEq, reduceCtorEq] at h <;> obtain ⟨rfl, rfl, rfl⟩ := h <;> simp [Tst.holds, E.val, E.vals] at hf ⊢ <;> omega

theorem byBnd_ok {ρ : Env} {y : E} {lo hi : Option Int} (h1 : ∀ l, lo = some l → l ≤ y.val ρ) (h2 : ∀ u, hi = some u → y.val ρ ≤ u) {t : Tst} {b : Bool} (h : byBnd y lo hi t = some b) : t.holds ρ = b := by
  have e1 : ∀ i, geO lo i = true → i ≤ y.val ρ := fun i hi => by
    cases hl : lo with
    | none => rw [hl] at hi; cases hi
    | some l => rw [hl] at hi; have := of_decide_eq_true hi; have := h1 l hl; omega
  have e2 : ∀ i, gtO lo i = true → i < y.val ρ := fun i hi => by
    cases hl : lo with
    | none => rw [hl] at hi; cases hi
    | some l => rw [hl] at hi; have := of_decide_eq_true hi; have := h1 l hl; omega
  have e3 : ∀ i, leO hi i = true → y.val ρ ≤ i := fun i hii => by
    cases hl : hi with
    | none => rw [hl] at hii; cases hii
    | some l => rw [hl] at hii; have := of_decide_eq_true hii; have := h2 l hl; omega
  have e4 : ∀ i, ltO hi i = true → y.val ρ < i := fun i hii => by
    cases hl : hi with
    | none => rw [hl] at hii; cases hii
    | some l => rw [hl] at hii; have := of_decide_eq_true hii; have := h2 l hl; omega
  unfold byBnd at h
  split at h
  · rename_i i x
    cases hs : y.same x with
    | false => rw [hs] at h; cases h
    | true =>
      rw [hs] at h; have := E.same_eq hs; subst this
      cases c1 : geO lo i with
      | true => rw [c1] at h; cases h; have := e1 i c1; simpa [Tst.holds, E.val, E.vals] using this
      | false =>
        rw [c1] at h
        cases c2 : ltO hi i with
        | true => rw [c2] at h; cases h; have := e4 i c2; simpa [Tst.holds, E.val, E.vals] using this
        | false => rw [c2] at h; cases h
  · rename_i x i _
    cases hs : y.same x with
    | false => rw [hs] at h; cases h
    | true =>
      rw [hs] at h; have := E.same_eq hs; subst this
      cases c1 : leO hi i with
      | true => rw [c1] at h; cases h; have := e3 i c1; simpa [Tst.holds, E.val, E.vals] using this
      | false =>
        rw [c1] at h
        cases c2 : gtO lo i with
        | true => rw [c2] at h; cases h; have := e2 i c2; simpa [Tst.holds, E.val, E.vals] using this
        | false => rw [c2] at h; cases h
  · rename_i x i
    cases hs : (y.same x && (ltO hi i || gtO lo i)) with
    | false => rw [hs] at h; cases h
    | true =>
      rw [hs] at h; cases h
      simp only [Bool.and_eq_true, Bool.or_eq_true] at hs
      have := E.same_eq hs.1; subst this
      rcases hs.2 with c | c
      · have := e4 i c; simp [Tst.holds, E.val, E.vals] at this ⊢; omega
      · have := e2 i c; simp [Tst.holds, E.val, E.vals] at this ⊢; omega
  · rename_i i x _
    cases hs : (y.same x && (ltO hi i || gtO lo i)) with
    | false => rw [hs] at h; cases h
    | true =>
      rw [hs] at h; cases h
      simp only [Bool.and_eq_true, Bool.or_eq_true] at hs
      have := E.same_eq hs.1; subst this
      rcases hs.2 with c | c
      · have := e4 i c; simp [Tst.holds, E.val, E.vals] at this ⊢; omega
      · have := e2 i c; simp [Tst.holds, E.val, E.vals] at this ⊢; omega
  · cases h

theorem bySame_ok {ρ : Env} {f : Tst} {v : Bool} {t : Tst} {b : Bool} (hf : f.holds ρ = v) (h : bySame f v t = some b) : t.holds ρ = b := by
  rcases f with ⟨c, d⟩ | ⟨c, d⟩ <;> rcases t with ⟨a, b'⟩ | ⟨a, b'⟩ <;> simp only [bySame] at h
  · skip
    cases h1 : (a.same c && b'.same d) with
    | true =>
      rw [h1] at h; cases h
      simp only [Bool.and_eq_true] at h1
      rw [E.same_eq h1.1, E.same_eq h1.2]; exact hf
    | false =>
      rw [h1] at h
      cases h2 : (!v && (a.same d && b'.same c)) with
      | false => rw [h2] at h; cases h
      | true =>
        rw [h2] at h; cases h
        simp only [Bool.and_eq_true, Bool.not_eq_true'] at h2
        rw [E.same_eq h2.2.1, E.same_eq h2.2.2]
        rw [h2.1] at hf
        simp [Tst.holds] at hf ⊢; omega
  · cases h2 : (!v && ((a.same c && b'.same d) || (a.same d && b'.same c))) with
    | false => rw [h2] at h; cases h
    | true =>
      rw [h2] at h; cases h
      simp only [Bool.and_eq_true, Bool.not_eq_true', Bool.or_eq_true] at h2
      rw [h2.1] at hf
      rcases h2.2 with ⟨p, q⟩ | ⟨p, q⟩ <;> rw [E.same_eq p, E.same_eq q] <;> simp [Tst.holds] at hf ⊢ <;> omega
  · cases h2 : (v && ((a.same c && b'.same d) || (a.same d && b'.same c))) with
    | false => rw [h2] at h; cases h
    | true =>
      rw [h2] at h; cases h
      simp only [Bool.and_eq_true, Bool.or_eq_true] at h2
      rw [h2.1] at hf
      rcases h2.2 with ⟨p, q⟩ | ⟨p, q⟩ <;> rw [E.same_eq p, E.same_eq q] <;> simp [Tst.holds] at hf ⊢ <;> omega
  · cases h2 : ((a.same c && b'.same d) || (a.same d && b'.same c)) with
    | false => rw [h2] at h; cases h
    | true =>
      rw [h2] at h; cases h
      simp only [Bool.and_eq_true, Bool.or_eq_true] at h2
      rcases h2 with ⟨p, q⟩ | ⟨p, q⟩
      · rw [E.same_eq p, E.same_eq q]; exact hf
      · rw [E.same_eq p, E.same_eq q, ← hf]
        simp only [Tst.holds]
        rw [Bool.eq_iff_iff]
        simp only [beq_iff_eq]
        exact ⟨fun e => e.symm, fun e => e.symm⟩


theorem infer_ok {ρ : Env} {f : Tst} {v : Bool} {t : Tst} {b : Bool} (hf : f.holds ρ = v) (h : infer f v t = some b) : t.holds ρ = b := by
  unfold infer at h
  split at h
  · rename_i b' hb; cases h; exact bySame_ok hf hb
  · split at h
    · rename_i y lo hi hb
      obtain ⟨h1, h2⟩ := bnd_ok hf hb
      exact byBnd_ok h1 h2 h
    · cases h

/-- The facts hold. -/
def AsgOk (ρ : Env) (l : Asg) : Prop := ∀ p ∈ l, p.1.holds ρ = p.2

theorem lookA_ok {ρ : Env} : ∀ {l : Asg} {t : Tst} {b : Bool}, AsgOk ρ l → lookA l t = some b → t.holds ρ = b
  | [], _, _, _, h => by cases h
  | (f, v) :: l, t, b, ha, h => by
    simp only [lookA] at h
    split at h
    · rename_i b' hb; cases h; exact infer_ok (ha (f, v) (by simp)) hb
    · exact lookA_ok (fun p hp => ha p (by simp [hp])) h

/-- What is known of the symbols holds. -/
structure Facts (cx : Cx) (ρ : Env) : Prop where
  known : AsgOk ρ cx.known
  fns : ρ.f = cx.fns
  defs : ∀ m d, cx.defs m = some d → ρ.v m = d.eval ρ
  base : ∀ b o v, cx.base b o = some v → ρ.mem b o = some v
  outer : ∀ k l, cx.outer k = some l → ∀ j c, l[j]? = some c → ∃ v, ρ.mem (ρ.out k).1 ((ρ.out k).2 + j) = some v ∧ CRel ⟨fun _ => none, ρ⟩ c v ∧ scal v = true

theorem ask_holds {cx : Cx} {ρ : Env} (h : Facts cx ρ) {t : Tst} {b : Bool} (ha : ask cx t = some b) : t.holds ρ = b := by
  unfold ask at ha
  split at ha
  · simp only [Option.some.injEq] at ha; subst ha; rfl
  · simp only [Option.some.injEq] at ha; subst ha; rw [Bool.eq_iff_iff]; simp [Tst.holds, E.val, E.vals]
  · rename_i a b' _
    cases hs : a.same b' with
    | true => rw [hs] at ha; cases ha; rw [E.same_eq hs]; simp [Tst.holds]
    | false => rw [hs] at ha; exact lookA_ok h.known ha
  · rename_i a b' _
    cases hs : a.same b' with
    | true => rw [hs] at ha; cases ha; rw [E.same_eq hs]; simp [Tst.holds]
    | false => rw [hs] at ha; exact lookA_ok h.known ha

theorem askIs_holds {cx : Cx} {ρ : Env} (h : Facts cx ρ) {e : E} : ∀ {n r m : Nat}, askIs cx e n r = some m → e.val ρ = m
  | 0, _, _, ha => by cases ha
  | n + 1, r, m, ha => by
    simp only [askIs] at ha
    split at ha
    · rename_i hq
      cases ha
      have := ask_holds h hq
      simpa [Tst.holds, E.val, E.vals] using this
    · exact askIs_holds h ha
    · cases ha

structure Inv (cx : Cx) (B : Nat) (β : Be) (st : St) (w : World) : Prop where
  low : ∀ id p, β id = some p → id < st.next ∧ B ≤ p.1 ∧ p.1 < w.heap.size
  live : ∀ id o, st.heap.get id = some o → ∃ b e ob, β id = some (b, e) ∧ w.heap[b]? = some ob ∧ ORel cx β e o ob
  inj : ∀ i j oi oj b e e', st.heap.get i = some oi → st.heap.get j = some oj → β i = some (b, e) → β j = some (b, e') → i = j
  base : ∀ b o v, β.env.mem b o = some v → b < B ∧ w.cell? ⟨b, o, none⟩ = some v
  size : B ≤ w.heap.size
  facts : Facts cx β.env

/-- A step: from (β, st, w) to (β', st', w'), no block with an id below fl written. -/
structure Good (cx : Cx) (B fl : Nat) (β : Be) (st : St) (w : World) (β' : Be) (st' : St) (w' : World) : Prop where
  ext : Ext β β'
  old : ∀ id, id < st.next → β' id = β id
  inv : Inv cx B β' st' w'
  keep : ∀ id, id < fl → st'.heap.get id = st.heap.get id
  next : st.next ≤ st'.next
  os : w'.os = w.os
  tape : w'.tape = w.tape
  output : w'.output = w.output
  size : w.heap.size ≤ w'.heap.size
  frame : ∀ k, k < w.heap.size → (∀ id o e, fl ≤ id → st.heap.get id = some o → β id ≠ some (k, e)) → w'.heap[k]? = w.heap[k]?
  fresh : ∀ id o b e, fl ≤ id → st'.heap.get id = some o → β' id = some (b, e) → w.heap.size ≤ b ∨ ∃ j oj e', fl ≤ j ∧ st.heap.get j = some oj ∧ β j = some (b, e')

theorem Good.refl {cx : Cx} {B fl : Nat} {β : Be} {st : St} {w : World} (h : Inv cx B β st w) : Good cx B fl β st w β st w :=
  ⟨Ext.refl _, fun _ _ => rfl, h, fun _ _ => rfl, Nat.le_refl _, rfl, rfl, rfl, Nat.le_refl _, fun _ _ _ => rfl, fun id o _ e h1 h2 h3 => .inr ⟨id, o, e, h1, h2, h3⟩⟩

theorem Good.trans {cx : Cx} {B fl : Nat} {β β' β'' : Be} {st st' st'' : St} {w w' w'' : World} (h : Good cx B fl β st w β' st' w') (h' : Good cx B fl β' st' w' β'' st'' w'') : Good cx B fl β st w β'' st'' w'' where
  ext := h.ext.trans h'.ext
  old id hid := (h'.old id (Nat.lt_of_lt_of_le hid h.next)).trans (h.old id hid)
  inv := h'.inv
  keep id hid := (h'.keep id hid).trans (h.keep id hid)
  next := Nat.le_trans h.next h'.next
  os := h'.os.trans h.os
  tape := h'.tape.trans h.tape
  output := h'.output.trans h.output
  size := Nat.le_trans h.size h'.size
  frame k hk hn := by
    rw [h'.frame k (Nat.lt_of_lt_of_le hk h.size) ?_, h.frame k hk hn]
    intro id o e hid ho hb
    rcases h.fresh id o k e hid ho hb with h1 | ⟨j, oj, e', h1, h2, h3⟩
    · omega
    · exact hn j oj e' h1 h2 h3
  fresh id o b e hid ho hb := by
    rcases h'.fresh id o b e hid ho hb with h1 | ⟨j, oj, e', h1, h2, h3⟩
    · exact .inl (Nat.le_trans h.size h1)
    · exact h.fresh j oj b e' h1 h2 h3

/-- Less is known of the heap. -/
theorem Inv.less {cx : Cx} {B : Nat} {β : Be} {st st' : St} {w : World} (h : Inv cx B β st w) (hn : st.next ≤ st'.next) (hg : ∀ id o, st'.heap.get id = some o → st.heap.get id = some o) : Inv cx B β st' w :=
  ⟨fun id p hp => ⟨Nat.lt_of_lt_of_le (h.low id p hp).1 hn, (h.low id p hp).2⟩, fun id o ho => h.live id o (hg id o ho),
    fun i j oi oj _ _ _ hi hj => h.inj i j oi oj _ _ _ (hg i oi hi) (hg j oj hj), h.base, h.size, h.facts⟩

end Go.Am
