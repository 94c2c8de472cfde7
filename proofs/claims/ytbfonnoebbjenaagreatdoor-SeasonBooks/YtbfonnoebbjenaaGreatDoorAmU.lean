/- The abstract machine: lemmas for a region whose order is drawn. The abstract machine: what the check of a plan says. -/
import Derived.Test.YtbfonnoebbjenaaGreatDoorAmS
namespace Go.Am
open Go

variable {cx : Cx} {P : Program} {B fl : Nat} {β : Be} {st : St} {w : World}

theorem R_ofV {st st' : St} {o : Option V} {v : V} (h : R.ofV st o = .val v st') : o = some v := by
  cases o with
  | none => cases h
  | some x => simp only [R.ofV, R.val.injEq] at h; rw [h.1]

/-- A step that makes and writes nothing asks neither for the floor nor for the next id. -/
theorem stepOp_next {fr : Fr} {h : T O} {n fl' N : Nat} {op : Op} {ty : TypeId} {v : V} {st' : St} (hk : pureKind op = true) (hs : stepOp cx fl fr ⟨h, n⟩ op ty = .val v st') : stepOp cx fl' fr ⟨h, N⟩ op ty = .val v ⟨h, N⟩ := by
  cases op <;> simp only [pureKind, Bool.false_eq_true] at hk
  case move x => simp only [stepOp] at hs ⊢; rw [R_ofV hs]; rfl
  case assign x => simp only [stepOp] at hs ⊢; rw [R_ofV hs]; rfl
  case pick c a b =>
    simp only [stepOp] at hs ⊢
    split at hs
    · rw [R_ofV hs]; rfl
    · rw [R_ofV hs]; rfl
    · cases hs
  case build t ps => simp only [stepOp] at hs ⊢; rw [R_ofV hs]; rfl
  case load t x =>
    simp only [stepOp] at hs ⊢
    split at hs
    · rename_i ty p h1 h2
      have := R_ofV hs
      have e : ∀ k, loadN cx ⟨h, N⟩ p k = loadN cx ⟨h, n⟩ p k := fun k => rfl
      rw [e, this]; rfl
    · cases hs
  case nilCheck x =>
    simp only [stepOp] at hs ⊢
    split at hs
    · simp only [R.val.injEq] at hs ⊢; exact ⟨hs.1, trivial⟩
    · simp only [R.val.injEq] at hs ⊢; exact ⟨hs.1, trivial⟩
    · simp only [R.val.injEq] at hs ⊢; exact ⟨hs.1, trivial⟩
    · cases hs
  case binOp op t x y e =>
    simp only [stepOp] at hs ⊢
    split at hs
    · rw [R_ofV hs]; rfl
    · cases hs
  case unOp op t x => simp only [stepOp] at hs ⊢; rw [R_ofV hs]; rfl
  case convert a b x => simp only [stepOp] at hs ⊢; exact congrArg (R.ofV ⟨h, N⟩) (R_ofV hs)
  case slice t x lo hi mx =>
    simp only [stepOp] at hs ⊢
    split at hs
    · rw [R_ofV hs]; rfl
    · cases hs
  case fieldAddr t x f => simp only [stepOp] at hs ⊢; rw [R_ofV hs]; rfl
  case field t x f => simp only [stepOp] at hs ⊢; rw [R_ofV hs]; rfl
  case indexAddr t x i =>
    simp only [stepOp] at hs ⊢
    split at hs
    · rw [R_ofV hs]; rfl
    · cases hs
  case index t x i =>
    simp only [stepOp] at hs ⊢
    split at hs
    · rw [R_ofV hs]; rfl
    · cases hs
  case lookup t m k ok =>
    simp only [stepOp] at hs ⊢
    split at hs
    · rename_i m' k' h1 h2
      have e : lookup cx t m' k' ok ⟨h, N⟩ = lookup cx t m' k' ok ⟨h, n⟩ := rfl
      rw [e, R_ofV hs]; rfl
    · cases hs
  case entry it =>
    simp only [stepOp] at hs ⊢
    have e : ∀ x, entryOp x ⟨h, N⟩ = entryOp x ⟨h, n⟩ := fun x => rfl
    simp only [e]
    rw [R_ofV hs]; rfl
  case extract t ix =>
    simp only [stepOp] at hs ⊢
    split at hs
    · split at hs
      · simp only [R.val.injEq] at hs ⊢; exact ⟨hs.1, trivial⟩
      · cases hs
    · cases hs
  case call c =>
    obtain ⟨callee, args, ats⟩ := c
    cases callee with
    | value f => simp at hk
    | invoke r n => simp at hk
    | builtin b =>
      simp only [stepOp] at hs ⊢
      split at hs
      · rename_i as h1
        unfold builtinOp at hs ⊢
        split at hs <;> first | (simp only [Bool.false_eq_true] at hk; done) | (cases hs; done) | skip
        · exact congrArg (R.ofV ⟨h, N⟩) (R_ofV hs)
        · rw [R_ofV hs]; rfl
        · rename_i cap _
          cases hc : Nat.beq cap 0 with
          | true => rw [hc] at hs; cases hs
          | false => rw [hc] at hs; simp only [cond_false, R.val.injEq] at hs ⊢; exact ⟨hs.1, trivial⟩
        · simp only [R.val.injEq] at hs ⊢; exact ⟨hs.1, trivial⟩
        · rw [R_ofV hs]; rfl
        · rw [R_ofV hs]; rfl
      · cases hs

theorem Be.same {a b : Be} (h : a.m = b.m) (h2 : a.env = b.env) : a = b := by
  cases a; cases b; simp_all

/-- The same heap in other words. -/
theorem Good.congr {β' : Be} {st' st2 : St} {w' : World} (h : Good cx B fl β st w β' st' w') (hn : st2.next = st'.next) (hg : ∀ id, st2.heap.get id = st'.heap.get id) : Good cx B fl β st w β' st2 w' where
  ext := h.ext
  old := h.old
  inv := by
    obtain ⟨h1, h2, h3, h4, h5, h6⟩ := h.inv
    exact ⟨fun id p hp => hn ▸ h1 id p hp, fun id o ho => h2 id o (hg id ▸ ho), fun i j oi oj b e e' hi hj => h3 i j oi oj b e e' (hg i ▸ hi) (hg j ▸ hj), h4, h5, h6⟩
  keep id hid := by rw [hg]; exact h.keep id hid
  next := hn ▸ h.next
  os := h.os
  tape := h.tape
  output := h.output
  size := h.size
  frame := h.frame
  fresh id o b e hid ho := h.fresh id o b e hid (hg id ▸ ho)

/-- A step with its floor at the top, seen from a wider heap. -/
theorem Good.grow {stX stc st' stY : St} {β' : Be} {w' : World} {N : Nat} (h : Inv cx B β stX w) (hX : stX.next = N) (hc : stc.next = N) (hg : Good cx B N β stc w β' st' w') (hsub : ∀ id o, stc.heap.get id = some o → stX.heap.get id = some o)
    (hn : stY.next = st'.next) (hget : ∀ id o, stY.heap.get id = some o → (id < N ∧ stX.heap.get id = some o) ∨ (N ≤ id ∧ st'.heap.get id = some o)) (hkeep : ∀ id, id < fl → stY.heap.get id = stX.heap.get id) : Good cx B fl β stX w β' stY w' := by
  have hfr : ∀ k, k < w.heap.size → w'.heap[k]? = w.heap[k]? := fun k hk => hg.frame k hk fun id o e hid ho _ => by
    have := get_lt h (hsub id o ho); omega
  have hnew : ∀ id o b e, N ≤ id → st'.heap.get id = some o → β' id = some (b, e) → w.heap.size ≤ b := fun id o b e hid ho hb => by
    rcases hg.fresh id o b e hid ho hb with h1 | ⟨j, oj, e', h1, h2, _⟩
    · exact h1
    · have := get_lt h (hsub j oj h2); omega
  refine ⟨hg.ext, fun id hid => hg.old id (by omega), ⟨fun id p hp => ?_, fun id o ho => ?_, fun i j oi oj b e e' hi hj hbi hbj => ?_, hg.inv.base, hg.inv.size, hg.inv.facts⟩, hkeep, ?_, hg.os, hg.tape, hg.output, hg.size, fun k hk _ => hfr k hk, fun id o b e hid ho hb => ?_⟩
  · rw [hn]; exact hg.inv.low id p hp
  · rcases hget id o ho with ⟨_, h1⟩ | ⟨_, h1⟩
    · obtain ⟨b, e, ob, hb, hh, hr⟩ := h.live id o h1
      exact ⟨b, e, ob, hg.ext.ids _ _ hb, (hfr b (h.low _ _ hb).2.2).trans hh, hr.mono hg.ext⟩
    · exact hg.inv.live id o h1
  · have oldb : ∀ i o b e, i < N → stX.heap.get i = some o → β' i = some (b, e) → β i = some (b, e) ∧ b < w.heap.size := fun i o b e hi ho hb => by
      have hb' : β i = some (b, e) := by rw [← hg.old i (by omega)]; exact hb
      exact ⟨hb', (h.low _ _ hb').2.2⟩
    rcases hget i oi hi with ⟨hi1, hi2⟩ | ⟨hi1, hi2⟩ <;> rcases hget j oj hj with ⟨hj1, hj2⟩ | ⟨hj1, hj2⟩
    · exact h.inj i j oi oj b e e' hi2 hj2 (oldb i oi b e hi1 hi2 hbi).1 (oldb j oj b e' hj1 hj2 hbj).1
    · have h1 := (oldb i oi b e hi1 hi2 hbi).2
      have h2 := hnew j oj b e' hj1 hj2 hbj
      omega
    · have h1 := (oldb j oj b e' hj1 hj2 hbj).2
      have h2 := hnew i oi b e hi1 hi2 hbi
      omega
    · exact hg.inv.inj i j oi oj b e e' hi2 hj2 hbi hbj
  · rw [hn, hX, ← hc]; exact hg.next
  · rcases hget id o ho with ⟨h1, h2⟩ | ⟨h1, h2⟩
    · refine .inr ⟨id, o, e, hid, h2, ?_⟩
      rw [← hg.old id (by omega)]; exact hb
    · exact .inl (hnew id o b e h1 h2 hb)

theorem pure_ok (hx : CxOk cx P) {ops : Array Oper} {i : Nat} {o : Oper} (ho : ops[i]? = some o) {fr : Fr} {a : Act} {h : T O} {v : V} (hk : pureOp cx ops.toList o fr h = some v) {stX : St} (hi : Inv cx B β stX w)
    (hsub : ∀ id o, h.get id = some o → stX.heap.get id = some o) (he : EvOk β fr a o.op.operands.toList) (hg : GuardOk β ops.toList o fr a) (Q : Exit → Act → World → Prop) :
    wpOp P ops Q i (fun a' w' => ∃ v', a' = a.put o.dst v' ∧ VRel β v v' ∧ Good cx B fl β stX w β stX w') a w := by
  unfold pureOp at hk
  unfold wpOp
  simp only [ho]
  split at hk
  · rename_i hw
    rw [wanted_ok hw hg]
    simp only [Option.some.injEq] at hk; subst hk
    simp only [Bool.false_eq_true, if_false]
    exact ⟨undef, rfl, rfl, Good.refl hi⟩
  · rename_i hw
    rw [wanted_ok hw hg]
    simp only [if_true]
    cases hp : pureKind o.op with
    | false => rw [hp] at hk; simp at hk
    | true =>
      rw [hp] at hk
      simp only [cond_true] at hk
      split at hk
      case h_2 => cases hk
      rename_i v2 st2 hs
      simp only [Option.some.injEq] at hk; subst hk
      refine .inl ?_
      have hs' := stepOp_next (fl' := stX.next) (N := stX.next) hp hs
      have hstep := step_ok (P := P) (B := B) (β := β) (w := w) (a := a) (st := ⟨h, stX.next⟩) (fl := stX.next) hx (hi.less (Nat.le_refl _) hsub) (Nat.le_refl _) o he
      rw [hs'] at hstep
      obtain ⟨v', β', w', q1, q2, q3⟩ := hstep
      have hβ : β' = β := by
        refine Be.same (funext fun id => ?_) q3.ext.env
        show β' id = β id
        by_cases hid : id < stX.next
        · exact q3.old id hid
        · rw [hi.fresh (by omega)]
          cases e : β' id with
          | none => rfl
          | some p => have := (q3.inv.low id p e).1; simp only at this; omega
      subst hβ
      unfold Oper.wp
      rw [q1]
      refine ⟨v', rfl, q2, ?_⟩
      exact Good.grow (N := stX.next) (stc := ⟨h, stX.next⟩) (st' := ⟨h, stX.next⟩) hi rfl rfl q3 hsub rfl (fun id o ho => .inl ⟨get_lt hi ho, ho⟩) (fun _ _ => rfl)
  · cases hk

/-! ### values of known ids alone -/
def restr (β : Be) (n : Nat) : Be := ⟨fun id => if id < n then β id else none, β.env⟩

theorem restr_at (β : Be) (n i : Nat) : restr β n i = if i < n then β i else none := rfl

theorem CRel.restr {n : Nat} : ∀ {x : C} {v : Value}, CRel β x v → cBelow n x = true → CRel (restr β n) x v
  | .sc _, _, r, _ => r
  | .sy _ _, _, r, _ => r
  | .sb _, _, r, _ => r
  | .slx _, _, r, _ => r
  | .stx _, _, r, _ => r
  | .osl _ _ _, _, r, _ => r
  | .optr _ _, _, r, _ => r
  | .ptr id _, _, ⟨b, e, hb, q⟩, h => ⟨b, e, by
      have : id < n := by simpa [cBelow, Nat.blt, Nat.ble_eq, Nat.succ_le_iff] using h
      simp only [restr_at, if_pos this]; exact hb, q⟩
  | .sl id _ _ _ _, _, ⟨b, e, hb, q⟩, h => ⟨b, e, by
      have : id < n := by simpa [cBelow, Nat.blt, Nat.ble_eq, Nat.succ_le_iff] using h
      simp only [restr_at, if_pos this]; exact hb, q⟩
  | .mp id, _, ⟨b, e, hb, q⟩, h => ⟨b, e, by
      have : id < n := by simpa [cBelow, Nat.blt, Nat.ble_eq, Nat.succ_le_iff] using h
      simp only [restr_at, if_pos this]; exact hb, q⟩
  | .fn f caps, _, ⟨bs, hr, q⟩, h => by
      refine ⟨bs, ?_, q⟩
      have h' : ∀ id ∈ caps, id < n := fun id hid => by
        have := List.all_eq_true.1 h id hid
        simpa [Nat.blt, Nat.ble_eq, Nat.succ_le_iff] using this
      clear h q
      induction caps generalizing bs with
      | nil => cases bs with
        | nil => trivial
        | cons _ _ => exact hr.elim
      | cons c caps ih =>
        cases bs with
        | nil => exact hr.elim
        | cons b bs =>
          obtain ⟨⟨e, he⟩, h2⟩ := hr
          exact ⟨⟨e, by simp only [restr_at, if_pos (h' c (by simp))]; exact he⟩, ih bs h2 fun id hid => h' id (by simp [hid])⟩
  | .unk, _, r, _ => r

theorem All2.restr {α γ : Type} {R S : α → γ → Prop} {p : α → Bool} (hs : ∀ x y, R x y → p x = true → S x y) : ∀ {l : List α} {m : List γ}, All2 R l m → l.all p = true → All2 S l m
  | [], [], _, _ => trivial
  | _ :: _, _ :: _, h, hp => by
    simp only [List.all_cons, Bool.and_eq_true] at hp
    exact ⟨hs _ _ h.1 hp.1, All2.restr hs h.2 hp.2⟩
  | [], _ :: _, h, _ => h.elim
  | _ :: _, [], h, _ => h.elim

theorem ARel.restr {n : Nat} : ∀ {x : A} {v : Value}, ARel β x v → aBelow n x = true → ARel (restr β n) x v
  | .c _, _, r, h => CRel.restr r h
  | .agg _, _, ⟨a, e, r, s⟩, h => ⟨a, e, All2.restr (p := cBelow n) (fun _ _ => CRel.restr) r h, s⟩

theorem VRel.restr {n : Nat} : ∀ {x : V} {v : Value}, VRel β x v → vBelow n x = true → VRel (restr β n) x v
  | .a _, _, r, h => ARel.restr r h
  | .tup _, _, ⟨a, e, r⟩, h => ⟨a, e, All2.restr (p := aBelow n) (fun _ _ => ARel.restr) r h⟩

theorem new_ok (hx : CxOk cx P) {ops : Array Oper} {i : Nat} {o : Oper} (ho : ops[i]? = some o) {fr : Fr} {a : Act} {n : Nat} {v : V} {ob : O} (hk : newOp cx ops.toList o fr n = some (v, ob)) {β0 : Be} {st0 stX : St} {w0 : World} (hfl : fl ≤ st0.next) (hn0 : st0.next ≤ n) (hn : n < stX.next) (G : Good cx B fl β0 st0 w0 β stX w)
    (hβ : β n = none) (he : EvOk β fr a o.op.operands.toList) (hg : GuardOk β ops.toList o fr a) (Q : Exit → Act → World → Prop) :
    wpOp P ops Q i (fun a' w' => ∃ v' p, a' = a.put o.dst v' ∧ VRel (upd β n p) v v' ∧ Good cx B fl β0 st0 w0 (upd β n p) (stX.put n (some ob)) w') a w := by
  have hi := G.inv
  unfold newOp at hk
  unfold wpOp
  simp only [ho]
  split at hk
  case h_2 => cases hk
  rename_i hw
  rw [wanted_ok hw hg]
  simp only [if_true]
  cases hb : o.op.operands.toList.all (evBelow n fr) with
  | false => rw [hb] at hk; simp at hk
  | true =>
  rw [hb] at hk
  simp only [cond_true] at hk
  split at hk
  case h_2 => cases hk
  rename_i v2 st2 hs
  cases hnx : Nat.beq st2.next (n + 1) with
  | false => rw [hnx] at hk; simp at hk
  | true =>
  rw [hnx] at hk
  simp only [cond_true, Option.map_eq_some_iff, Prod.mk.injEq] at hk
  obtain ⟨ob2, hob, rfl, rfl⟩ := hk
  have hnx' := Nat.eq_of_beq_eq_true hnx
  refine .inl ?_
  have hinv : Inv cx B (restr β n) ⟨.nil, n⟩ w := by
    refine ⟨fun id p hp => ?_, fun id o ho => by simp [T.get] at ho, fun i j oi oj b e e' hi => by simp [T.get] at hi, hi.base, hi.size, hi.facts⟩
    simp only [restr_at] at hp
    split at hp
    · rename_i hid; exact ⟨hid, (hi.low id p hp).2⟩
    · cases hp
  have he' : EvOk (restr β n) fr a o.op.operands.toList := fun x hx v hv => by
    have h1 := List.all_eq_true.1 hb x hx
    unfold evBelow at h1
    rw [hv] at h1
    exact (he x hx v hv).restr h1
  have hstep := step_ok (P := P) (fl := n) hx hinv (Nat.le_refl _) o he'
  rw [hs] at hstep
  obtain ⟨v', β', w', q1, q2, q3⟩ := hstep
  obtain ⟨b, e, obj, hb', hh, hr⟩ := q3.inv.live n ob2 hob
  have hext : Ext β' (upd β n (b, e)) := by
    refine ⟨fun id p hp => ?_, q3.ext.env.symm⟩
    simp only [upd_at]
    have hlt := (q3.inv.low id p hp).1
    rw [hnx'] at hlt
    by_cases hid : id = n
    · subst hid; rw [if_pos rfl, ← hp, hb']
    · rw [if_neg hid]
      rw [q3.old id (by simp only; omega)] at hp
      simp only [restr_at] at hp
      split at hp
      · exact hp
      · cases hp
  have hext2 : Ext β (upd β n (b, e)) := by
    refine ⟨fun id p hp => ?_, rfl⟩
    simp only [upd_at]
    split
    · rename_i hid; subst hid; rw [hβ] at hp; cases hp
    · exact hp
  have hsz : w.heap.size ≤ b := by
    rcases q3.fresh n ob2 b e (Nat.le_refl _) hob hb' with h1 | ⟨j, oj, e', _, h2, _⟩
    · exact h1
    · simp [T.get] at h2
  have hfr : ∀ k, k < w.heap.size → w'.heap[k]? = w.heap[k]? := fun k hk => q3.frame k hk fun id o e _ ho _ => by simp [T.get] at ho
  have hget : ∀ id o', (stX.put n (some ob2)).heap.get id = some o' → (id = n ∧ o' = ob2) ∨ (id ≠ n ∧ stX.heap.get id = some o') := fun id o' hid => by
    simp only [St.put, T.get_set] at hid
    by_cases e : id = n
    · rw [if_pos e] at hid; cases hid; exact .inl ⟨e, rfl⟩
    · rw [if_neg e] at hid; exact .inr ⟨e, hid⟩
  have hlow' := (q3.inv.low n _ hb').2
  unfold Oper.wp
  rw [q1]
  refine ⟨v', (b, e), rfl, q2.mono hext, G.ext.trans hext2, fun id hid => ?_, ⟨fun id p hp => ?_, fun id o' ho' => ?_, fun i j oi oj b1 e1 e2 hgi hgj hbi hbj => ?_, (fun b o v hv => q3.inv.base b o v (by rw [q3.ext.env]; exact hv)), q3.inv.size, G.inv.facts⟩, fun id hid => ?_, G.next, q3.os.trans G.os, q3.tape.trans G.tape, q3.output.trans G.output, Nat.le_trans G.size q3.size, fun k hk hno => ?_, fun id o' b1 e1 hid ho' hb1 => ?_⟩
  · simp only [upd_at]
    rw [if_neg (by omega)]; exact G.old id hid
  · simp only [upd_at] at hp
    split at hp
    · rename_i hid; cases hp; subst hid; exact ⟨hn, hlow'⟩
    · have := hi.low id p hp
      exact ⟨this.1, this.2.1, Nat.lt_of_lt_of_le this.2.2 q3.size⟩
  · rcases hget id o' ho' with ⟨rfl, rfl⟩ | ⟨hne, hx'⟩
    · exact ⟨b, e, obj, by simp [upd_at], hh, hr.mono hext⟩
    · obtain ⟨b2, e2, ob3, h1, h2, h3⟩ := hi.live id o' hx'
      exact ⟨b2, e2, ob3, hext2.ids _ _ h1, (hfr b2 (hi.low _ _ h1).2.2).trans h2, h3.mono hext2⟩
  · rcases hget i oi hgi with ⟨rfl, rfl⟩ | ⟨hni, hxi⟩ <;> rcases hget j oj hgj with ⟨rfl, rfl⟩ | ⟨hnj, hxj⟩
    · rfl
    · simp only [upd_at, if_pos] at hbi; cases hbi
      simp only [upd_at, if_neg hnj] at hbj
      have := (hi.low _ _ hbj).2.2; simp only at this; omega
    · simp only [upd_at, if_pos] at hbj; cases hbj
      simp only [upd_at, if_neg hni] at hbi
      have := (hi.low _ _ hbi).2.2; simp only at this; omega
    · simp only [upd_at, if_neg hni] at hbi
      simp only [upd_at, if_neg hnj] at hbj
      exact hi.inj i j oi oj b1 e1 e2 hxi hxj hbi hbj
  · simp only [St.put]; rw [T.get_set_other _ _ (by omega)]; exact G.keep id hid
  · rw [hfr k (Nat.lt_of_lt_of_le hk G.size)]; exact G.frame k hk hno
  · rcases hget id o' ho' with ⟨rfl, rfl⟩ | ⟨hne, hx'⟩
    · simp only [upd_at, if_pos] at hb1; cases hb1; exact .inl (Nat.le_trans G.size hsz)
    · simp only [upd_at, if_neg hne] at hb1
      exact G.fresh id o' b1 e1 hid hx' hb1
end Go.Am

namespace Go.Am
open Go

theorem memN_iff {j : Nat} {l : List Nat} : memN j l = true ↔ j ∈ l := by rw [memN_eq]; simp

/-- what a heap holds once some of the pending blocks have been put in -/
def Src (pend : List (Nat × Nat × O)) (ls : List Nat) (st : St) (id : Nat) (o : O) : Prop := st.heap.get id = some o ∨ ∃ i, (i, id, o) ∈ pend ∧ i ∈ ls

theorem insertAs_next : ∀ (pend : List (Nat × Nat × O)) (as : List Nat) (st : St), (insertAs pend as st).next = st.next
  | [], _, _ => rfl
  | (i, id, o) :: pend, as, st => by
    simp only [insertAs]
    rw [insertAs_next]
    cases memN i as <;> rfl

theorem insertAs_get : ∀ (pend : List (Nat × Nat × O)) (as : List Nat) (st : St) (id : Nat) (o : O), (insertAs pend as st).heap.get id = some o → Src pend as st id o
  | [], _, _, _, _, h => .inl h
  | (i, id0, o0) :: pend, as, st, id, o, h => by
    simp only [insertAs] at h
    rcases insertAs_get pend as _ id o h with h1 | ⟨j, h1, h2⟩
    · cases hm : memN i as with
      | false => rw [hm] at h1; exact .inl h1
      | true =>
        rw [hm] at h1
        simp only [cond_true, St.put, T.get_set] at h1
        by_cases e : id = id0
        · rw [if_pos e] at h1; cases h1; subst e
          exact .inr ⟨i, by simp, memN_iff.1 hm⟩
        · rw [if_neg e] at h1; exact .inl h1
    · exact .inr ⟨j, by simp [h1], h2⟩

theorem insertAs_some : ∀ (pend : List (Nat × Nat × O)) (as : List Nat) (st : St) (id : Nat) (o : O), Src pend as st id o → ∃ o', (insertAs pend as st).heap.get id = some o'
  | [], _, _, _, o, h => by
    rcases h with h | ⟨i, h, _⟩
    · exact ⟨o, h⟩
    · cases h
  | (i, id0, o0) :: pend, as, st, id, o, h => by
    simp only [insertAs]
    have key : ∀ o, st.heap.get id = some o → ∃ o', (bif memN i as then st.put id0 (some o0) else st).heap.get id = some o' := fun o h1 => by
      cases memN i as with
      | false => exact ⟨o, h1⟩
      | true =>
        simp only [cond_true, St.put, T.get_set]
        by_cases e : id = id0
        · rw [if_pos e]; exact ⟨_, rfl⟩
        · rw [if_neg e]; exact ⟨o, h1⟩
    rcases h with h1 | ⟨j, h1, h2⟩
    · obtain ⟨o', ho'⟩ := key o h1
      exact insertAs_some pend as _ id o' (.inl ho')
    · rcases List.mem_cons.1 h1 with he | he
      · cases he
        refine insertAs_some pend as _ _ o0 (.inl ?_)
        rw [memN_iff.2 h2]
        simp [St.put, T.get_set]
      · exact insertAs_some pend as _ id o (.inr ⟨j, he, h2⟩)

/-- Where the sources agree, the heap holds just them. -/
theorem insertAs_iff {pend : List (Nat × Nat × O)} {as : List Nat} {st : St} (hc : ∀ id o o', Src pend as st id o → Src pend as st id o' → o = o') (id : Nat) (o : O) : (insertAs pend as st).heap.get id = some o ↔ Src pend as st id o := by
  refine ⟨insertAs_get pend as st id o, fun h => ?_⟩
  obtain ⟨o', ho'⟩ := insertAs_some pend as st id o h
  rw [ho', hc id o o' h (insertAs_get pend as st id o' ho')]

theorem insertAs_all : ∀ (pend : List (Nat × Nat × O)) (as : List Nat) (st : St), (∀ p ∈ pend, p.1 ∈ as) → insertAs pend as st = insertAll pend st
  | [], _, _, _ => rfl
  | (i, id, o) :: pend, as, st, h => by
    simp only [insertAs, insertAll]
    rw [memN_iff.2 (h (i, id, o) (by simp)), insertAs_all pend as _ fun p hp => h p (by simp [hp])]
    rfl

theorem insertAs_append : ∀ (pend p2 : List (Nat × Nat × O)) (as : List Nat) (st : St), insertAs (pend ++ p2) as st = insertAs p2 as (insertAs pend as st)
  | [], _, _, _ => rfl
  | (i, id, o) :: pend, p2, as, st => by simp only [List.cons_append, insertAs, insertAs_append pend p2]

/-- 'j' must have been done before 'i'. -/
inductive Anc (ops : List Oper) : Nat → Nat → Prop where
  | edge {i j : Nat} : edge ops i j = true → Anc ops i j
  | step {i k j : Nat} : Anc ops i k → Am.edge ops k j = true → Anc ops i j

theorem ancs_sound {ops : List Oper} {i : Nat} : ∀ (pre : List Step) (acc : List Nat), (∀ x ∈ acc, Anc ops i x) → ∀ j ∈ ancs ops i pre acc, Anc ops i j ∧ (j ∈ acc ∨ ∃ s ∈ pre, s.idx = j)
  | [], acc, h, j, hj => ⟨h j hj, .inl hj⟩
  | s :: pre, acc, h, j, hj => by
    simp only [ancs] at hj
    cases hc : (edge ops i s.idx || acc.any fun x => edge ops x s.idx) with
    | false =>
      rw [hc] at hj
      obtain ⟨h1, h2⟩ := ancs_sound pre acc h j hj
      refine ⟨h1, h2.imp_right fun ⟨q, hq, e⟩ => ⟨q, by simp [hq], e⟩⟩
    | true =>
      rw [hc] at hj
      have hs : Anc ops i s.idx := by
        simp only [Bool.or_eq_true] at hc
        rcases hc with hc | hc
        · exact .edge hc
        · obtain ⟨x, hx, he⟩ := List.any_eq_true.1 hc
          exact .step (h x hx) he
      obtain ⟨h1, h2⟩ := ancs_sound pre (s.idx :: acc) (fun x hx => by
        rcases List.mem_cons.1 hx with rfl | hx
        · exact hs
        · exact h x hx) j hj
      refine ⟨h1, ?_⟩
      rcases h2 with h2 | ⟨q, hq, e⟩
      · rcases List.mem_cons.1 h2 with rfl | h2
        · exact .inr ⟨s, by simp, rfl⟩
        · exact .inl h2
      · exact .inr ⟨q, by simp [hq], e⟩

theorem mem_nats : ∀ {n j : Nat}, j ∈ nats n ↔ j < n
  | 0, j => by simp [nats]
  | n + 1, j => by simp only [nats, List.mem_cons, mem_nats]; omega

theorem anc_listed {ops : List Oper} {ls : List Nat} (hid : ∀ j ∈ ls, ∀ x, edge ops j x = true → x ∈ ls) {i : Nat} (hs : ∀ x, edge ops i x = true → x ∈ ls) : ∀ {j : Nat}, Anc ops i j → j ∈ ls := by
  intro j h
  induction h with
  | edge h => exact hs _ h
  | step _ he ih => exact hid _ ih _ he

theorem edge_lt {ops : List Oper} {i : Nat} {o : Oper} (ho : ops[i]? = some o) (h : (o.after.toList.all fun e => bif Region.binds .any e then Nat.blt e.on i else true) = true) : ∀ x, edge ops i x = true → x < i := by
  intro x hx
  unfold edge at hx
  rw [ho] at hx
  simp only at hx
  obtain ⟨e, he, hb⟩ := List.any_eq_true.1 hx
  simp only [Bool.and_eq_true] at hb
  have h1 := List.all_eq_true.1 h e he
  rw [hb.1] at h1
  simp only [cond_true] at h1
  have := Nat.eq_of_beq_eq_true hb.2
  have h2 : e.on < i := by simpa [Nat.blt, Nat.ble_eq, Nat.succ_le_iff] using h1
  omega

/-- What the check of a plan says of its head. -/
structure HeadOk (ops : List Oper) (pre : List Step) (s : Step) (pl : List Step) (o : Oper) : Prop where
  op : ops[s.idx]? = some o
  look : ∀ j, looks ops o j = true → (Anc ops s.idx j ∧ ∃ q ∈ pre, q.idx = j) ∨ (j ≠ s.idx ∧ ∀ q ∈ pre, q.idx ≠ j)
  seen : ∀ q ∈ pre, ∀ oq, ops[q.idx]? = some oq → looks ops oq s.idx = true → s.chain = true ∧ Anc ops s.idx q.idx
  new : ∀ q ∈ pre, q.idx ≠ s.idx ∧ sameDst ops o q.idx = false
  down : ∀ x, edge ops s.idx x = true → x < s.idx
  rAs : ∀ as, s = .r s.idx as → ∀ j ∈ as, Anc ops s.idx j
  qAs : ∀ as, s = .q s.idx as → ∀ j ∈ as, Anc ops s.idx j
  wAll : s = .w s.idx → ∀ q ∈ pre, isBlock q = true → Anc ops s.idx q.idx
  wait : s.chain = true → allWait ops pl [s.idx] = true
  rest : planCheck ops (s :: pre) pl = true

theorem looks_lt {ops : List Oper} {o : Oper} {j : Nat} (h : looks ops o j = true) : j < ops.length := by
  unfold looks at h
  split at h
  · rename_i oj ho; exact (List.getElem?_eq_some_iff.1 ho).1
  · cases h

theorem planCheck_cons {ops : List Oper} {pre pl : List Step} {s : Step} (h : planCheck ops pre (s :: pl) = true) : ∃ o, HeadOk ops pre s pl o := by
  simp only [planCheck] at h
  split at h
  case h_2 => cases h
  rename_i o ho
  simp only [Bool.and_eq_true] at h
  obtain ⟨⟨⟨⟨⟨⟨h1, h0⟩, h2⟩, h3⟩, h4⟩, h5⟩, h6⟩ := h
  have an := fun j hj => ancs_sound (ops := ops) (i := s.idx) pre [] (fun x hx => by cases hx) j hj
  refine ⟨o, ho, fun j hj => ?_, fun q hq oq hoq hl => ?_, fun q hq => ?_, edge_lt ho h3, fun as hs j hj => ?_, fun as hs j hj => ?_, fun hs q hq hb => ?_, fun hc => ?_, h6⟩
  · have := List.all_eq_true.1 h1 j (mem_nats.2 (looks_lt hj))
    rw [hj] at this
    simp only [cond_true, Bool.or_eq_true, Bool.and_eq_true, Bool.not_eq_true'] at this
    rcases this with this | ⟨g1, g2⟩
    · obtain ⟨a1, a2⟩ := an j (memN_iff.1 this)
      exact .inl ⟨a1, a2.resolve_left (by simp)⟩
    · refine .inr ⟨fun e => ?_, fun q hq e => ?_⟩
      · rw [e, T.beq_true rfl] at g1; cases g1
      · have := List.all_eq_true.1 g2 q hq
        rw [e, T.beq_true rfl] at this; cases this
  · have := List.all_eq_true.1 h0 q hq
    rw [hoq] at this
    simp only [hl, cond_true, Bool.and_eq_true] at this
    exact ⟨this.1, (an _ (memN_iff.1 this.2)).1⟩
  · have := List.all_eq_true.1 h2 q hq
    simp only [Bool.and_eq_true, Bool.not_eq_true'] at this
    refine ⟨fun e => ?_, this.2⟩
    rw [e, T.beq_true rfl] at this; exact absurd this.1 (by simp)
  · cases s <;> cases hs
    exact (an j (memN_iff.1 (List.all_eq_true.1 h4 j hj))).1
  · cases s <;> cases hs
    exact (an j (memN_iff.1 (List.all_eq_true.1 h4 j hj))).1
  · cases s <;> cases hs
    have := List.all_eq_true.1 h4 q hq
    rw [hb] at this
    exact (an _ (memN_iff.1 this)).1
  · rw [hc] at h5; exact h5

/-- Every operation of the region is in the plan. -/
theorem planCheck_all {ops : List Oper} : ∀ {pl pre : List Step}, planCheck ops pre pl = true → ∀ j, j < ops.length → (∃ s ∈ pre, s.idx = j) ∨ ∃ s ∈ pl, s.idx = j
  | [], pre, h, j, hj => by
    simp only [planCheck] at h
    have := List.all_eq_true.1 h j (mem_nats.2 hj)
    obtain ⟨s, hs, he⟩ := List.any_eq_true.1 this
    exact .inl ⟨s, hs, Nat.eq_of_beq_eq_true he⟩
  | s :: pl, pre, h, j, hj => by
    obtain ⟨o, H⟩ := planCheck_cons h
    rcases planCheck_all H.rest j hj with ⟨q, hq, e⟩ | ⟨q, hq, e⟩
    · rcases List.mem_cons.1 hq with rfl | hq
      · exact .inr ⟨q, by simp, e⟩
      · exact .inl ⟨q, hq, e⟩
    · exact .inr ⟨q, by simp [hq], e⟩

theorem planCheck_new {ops : List Oper} : ∀ {pl pre : List Step}, planCheck ops pre pl = true → ∀ s ∈ pl, s.idx < ops.length ∧ (∀ x, edge ops s.idx x = true → x < s.idx) ∧ ∀ q ∈ pre, q.idx ≠ s.idx
  | [], _, _, _, hs => by cases hs
  | s0 :: pl, pre, h, s, hs => by
    obtain ⟨o, H⟩ := planCheck_cons h
    rcases List.mem_cons.1 hs with rfl | hs
    · exact ⟨(List.getElem?_eq_some_iff.1 H.op).1, H.down, fun q hq => (H.new q hq).1⟩
    · obtain ⟨h1, h2, h3⟩ := planCheck_new H.rest s hs
      exact ⟨h1, h2, fun q hq => h3 q (by simp [hq])⟩

/-- All that waits is not ready. -/
theorem allWait_edge {ops : List Oper} {ls : List Nat} : ∀ {pl : List Step} {d : List Nat}, allWait ops pl d = true → (∀ x ∈ d, x ∉ ls) → (∀ s ∈ pl, s.idx ∉ ls) → ∀ s ∈ pl, ∃ x, edge ops s.idx x = true ∧ x ∉ ls
  | [], _, _, _, _, _, hs => by cases hs
  | s0 :: pl, d, h, hd, hp, s, hs => by
    simp only [allWait, Bool.and_eq_true] at h
    obtain ⟨x, hx, he⟩ := List.any_eq_true.1 h.1
    rcases List.mem_cons.1 hs with rfl | hs
    · exact ⟨x, he, hd x hx⟩
    · exact allWait_edge h.2 (fun y hy => by
        rcases List.mem_cons.1 hy with rfl | hy
        · exact hp s0 (by simp)
        · exact hd y hy) (fun s hs => hp s (by simp [hs])) s hs
end Go.Am
