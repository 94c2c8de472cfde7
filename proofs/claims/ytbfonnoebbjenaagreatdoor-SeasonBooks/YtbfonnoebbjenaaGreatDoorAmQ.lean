/- The abstract machine: one operation as the model runs it. -/
import Derived.Test.YtbfonnoebbjenaaGreatDoorAmO
import Derived.Lib.UnsafeStr
namespace Go.Am
open Go

variable {cx : Cx} {P : Program} {B fl : Nat} {β : Be} {st : St} {w : World}

theorem resB_rel {β : Be} (hf : Facts cx β.env) {x v : V} {u : Value} (hx : VRel β x u) (h : resB cx x = some v) : VRel β v u := by
  unfold resB at h
  split at h
  · rename_i e
    simp only [Option.map_eq_some_iff] at h
    obtain ⟨b, hb, rfl⟩ := h
    have h1 := ask_holds hf hb
    have h2 : u = _ := hx
    rw [h2]
    show Value.bool _ = Value.bool _
    rw [← h1]
    simp only [Tst.holds]
    congr 1
    rw [Bool.eq_iff_iff]
    simp [E.val, E.vals]
  · simp only [Option.some.injEq] at h; subst h; exact hx

/-- The operands are what the frame says they are. -/
def EvOk (β : Be) (fr : Fr) (a : Act) (xs : List Operand) : Prop := ∀ x ∈ xs, ∀ v, ev fr x = some v → VRel β v (a.eval x)

theorem EvOk.of {fr : Fr} {a : Act} (r : FrRel β fr a) (xs : List Operand) : EvOk β fr a xs := fun _ _ _ hv => ev_rel r hv

theorem evParts_relM {fr : Fr} {a : Act} : ∀ {l : List (Nat × Operand)} {ps : List (Nat × V)}, EvOk β fr a (l.map (·.2)) → evParts fr l = some ps →
    All2 (fun (p : Nat × V) (q : Nat × Value) => p.1 = q.1 ∧ VRel β p.2 q.2) ps (l.map fun (i, x) => (i, a.eval x))
  | [], ps, _, h => by simp only [evParts, Option.some.injEq] at h; subst h; trivial
  | (i, x) :: l, ps, r, h => by
    simp only [evParts] at h
    split at h
    · rename_i v rs hv hr
      simp only [Option.some.injEq] at h; subst h
      exact ⟨⟨rfl, r x (by simp) v hv⟩, evParts_relM (fun y hy => r y (List.mem_cons_of_mem _ hy)) hr⟩
    · cases h

theorem evArgs_relM {fr : Fr} {a : Act} : ∀ {l : List Operand} {vs : List V}, EvOk β fr a l → evArgs fr l = some vs → All2 (VRel β) vs (l.map a.eval)
  | [], vs, _, h => by simp only [evArgs, Option.some.injEq] at h; subst h; trivial
  | x :: l, vs, r, h => by
    simp only [evArgs] at h
    split at h
    · rename_i v rs hv hr
      simp only [Option.some.injEq] at h; subst h
      exact ⟨r x (by simp) v hv, evArgs_relM (fun y hy => r y (List.mem_cons_of_mem _ hy)) hr⟩
    · cases h

theorem evO_rel {fr : Fr} {a : Act} {x : Option Operand} {v : Option V} (r : ∀ y, x = some y → ∀ v, ev fr y = some v → VRel β v (a.eval y)) (h : evO fr x = some v) : ORelV β v (x.map a.eval) := by
  cases x with
  | none => simp only [evO, Option.some.injEq] at h; subst h; exact ⟨by simp, fun _ => rfl⟩
  | some y =>
    simp only [evO, Option.map_eq_some_iff] at h
    obtain ⟨u, hu, rfl⟩ := h
    exact ⟨fun v hv => ⟨_, rfl, by cases hv; exact r y rfl u hu⟩, fun h => by cases h⟩

/-- What a step's answer says of the operation's run. -/
def StepOk (cx : Cx) (B fl : Nat) (β : Be) (st : St) (w : World) (P : Program) (e : Sem Next) : R → Prop
  | .val v st' => ∃ v' β' w', e.run P w = .ok (.value v') w' ∧ VRel β' v v' ∧ Good cx B fl β st w β' st' w'
  | .skip st' => ∃ β' w', e.run P w = .ok .skip w' ∧ Good cx B fl β st w β' st' w'
  | .any l => ∃ v st', (v, st') ∈ l ∧ ∃ v' β' w', e.run P w = .ok (.value v') w' ∧ VRel β' v v' ∧ Good cx B fl β st w β' st' w'
  | .call f args => ∃ args' : Array Value, All2 (VRel β) args args'.toList ∧ e.run P w = (callFunc f args').run P w
  | .fail => True

theorem StepOk.ofV (h : Inv cx B β st w) {s : Sem Value} {o : Option V} (hs : ∀ v, o = some v → ∃ v', s.run P w = .ok v' w ∧ VRel β v v') : StepOk cx B fl β st w P (do pure (.value (← s))) (.ofV st o) := by
  cases o with
  | none => trivial
  | some v =>
    obtain ⟨v', h1, h2⟩ := hs v rfl
    exact ⟨v', β, w, by simp [h1], h2, Good.refl h⟩

theorem StepOk.ofVS {s : Sem Value} {o : Option (V × St)} (hs : ∀ v st', o = some (v, st') → OkV cx B fl β st w P s v st') : StepOk cx B fl β st w P (do pure (.value (← s))) (.ofVS o) := by
  cases o with
  | none => trivial
  | some p =>
    obtain ⟨v', β', w', h1, h2, h3⟩ := hs p.1 p.2 rfl
    exact ⟨v', β', w', by simp [h1], h2, h3⟩

theorem StepOk.ofS {s : Sem Unit} {o : Option St} (hs : ∀ st', o = some st' → ∃ w', s.run P w = .ok () w' ∧ Good cx B fl β st w β st' w') : StepOk cx B fl β st w P (do s; pure .skip) (.ofS o) := by
  cases o with
  | none => trivial
  | some p =>
    obtain ⟨w', h1, h2⟩ := hs p rfl
    exact ⟨β, w', by simp [h1], h2⟩

theorem StepOk.ofR {s : Sem Value} {r : R} (hr : RRel cx B fl β st w P s r) : StepOk cx B fl β st w P (do pure (.value (← s))) r := by
  cases r with
  | val v st' => obtain ⟨v', β', w', h1, h2, h3⟩ := hr; exact ⟨v', β', w', by simp [h1], h2, h3⟩
  | any l => obtain ⟨v, st', hm, v', β', w', h1, h2, h3⟩ := hr; exact ⟨v, st', hm, v', β', w', by simp [h1], h2, h3⟩
  | skip st' => exact hr.elim
  | call f a => exact hr.elim
  | fail => trivial

theorem toC_some {v : V} {c : C} (h : toC v = some c) : v = .a (.c c) := by
  unfold toC at h; split at h
  · simp only [Option.some.injEq] at h; subst h; rfl
  · cases h

theorem toBool_rel {v : V} {v' : Value} {b : Bool} (h : VRel β v v') (hb : toBool v = some b) : v' = .bool b := by
  unfold toBool at hb; split at hb
  · simp only [Option.some.injEq] at hb; subst hb; exact h
  · cases hb

theorem capIds_rel : ∀ {vs : List V} {ids : List Nat} {l : List Value}, All2 (VRel β) vs l → capIds vs = some ids → ∃ bs : List Nat, All2 (fun id b => ∃ e, β id = some (b, e)) ids bs ∧ l = bs.map fun b => adr b 0
  | [], ids, [], _, h => by simp only [capIds, Option.some.injEq] at h; subst h; exact ⟨[], trivial, rfl⟩
  | [], _, _ :: _, h, _ => h.elim
  | _ :: _, _, [], h, _ => h.elim
  | v :: vs, ids, x :: l, hr, h => by
    unfold capIds at h
    split at h
    · rename_i h0; cases h0
    · rename_i id vs2 h0
      simp only [List.cons.injEq] at h0
      obtain ⟨rfl, rfl⟩ := h0
      simp only [Option.map_eq_some_iff] at h
      obtain ⟨ids', h1, rfl⟩ := h
      obtain ⟨bs, h2, rfl⟩ := capIds_rel hr.2 h1
      obtain ⟨b, e, hb, rfl⟩ := hr.1
      exact ⟨b :: bs, ⟨⟨e, hb⟩, h2⟩, rfl⟩
    · cases h

theorem bytesOf_rel : ∀ {l : List C} {bs : List UInt8} {vs : List Value}, bytesOf l = some bs → All2 (CRel β) l vs → vs = Lib.byteCells bs
  | [], bs, [], h, _ => by simp only [bytesOf, Option.some.injEq] at h; subst h; rfl
  | [], _, _ :: _, _, h => h.elim
  | _ :: _, _, [], _, h => h.elim
  | c :: l, bs, v :: vs, h, hr => by
    unfold bytesOf at h
    split at h
    · rename_i h0; cases h0
    · rename_i n l2 h0
      simp only [List.cons.injEq] at h0
      obtain ⟨rfl, rfl⟩ := h0
      cases hn : Nat.blt n 256 with
      | false => rw [hn] at h; simp at h
      | true =>
        rw [hn] at h
        simp only [cond_true, Option.map_eq_some_iff] at h
        obtain ⟨bs', h1, rfl⟩ := h
        have hlt : n < 256 := by simpa [Nat.blt, Nat.ble_eq, Nat.succ_le_iff] using hn
        have hv : v = .int .u8 (Int.ofNat n) := hr.1
        rw [bytesOf_rel h1 hr.2, hv]
        have : (UInt8.ofNat n).toNat = n := by simp; omega
        simp [Lib.byteCells, this]
    · cases h

theorem run_unsafeString (hx : CxOk cx P) {pt it ty : TypeId} {p n v : V} {p' n' : Value} (hp : VRel β p p') (hn : VRel β n n') (h : Inv cx B β st w) {st' : St} (hl : unsafeStr cx fl pt p n st = some (v, st')) :
    OkV cx B fl β st w P (Builtin.unsafeString_ #[pt, it] ty #[p', n']) v st' := by
  unfold unsafeStr at hl
  split at hl
  · have e1 : n' = _ := hn
    subst e1
    cases hq : isPtrV p with
    | false => rw [hq] at hl; simp at hl
    | true =>
      rw [hq] at hl
      simp only [cond_true, Option.some.injEq, Prod.mk.injEq] at hl
      obtain ⟨rfl, rfl⟩ := hl
      obtain ⟨q, rfl⟩ : ∃ q, p' = .pointer q := by
        unfold isPtrV at hq
        split at hq
        · obtain ⟨b, e, _, rfl⟩ := hp; exact ⟨_, rfl⟩
        · have e1 : p' = _ := hp; exact ⟨_, e1⟩
        · cases hq
      exact ⟨_, β, w, Lib.run_unsafeString_none w pt it ty q, rfl, Good.refl h⟩
  · rename_i n hnz
    have e1 : n' = _ := hn
    subst e1
    split at hl
    case h_2 => cases hl
    rename_i id pty hpt
    obtain ⟨i, z, hT⟩ := hx.is hpt
    cases hfid : Nat.ble fl id with
    | false => rw [hfid] at hl; simp at hl
    | true =>
    rw [hfid] at hl
    simp only [cond_true, St.get] at hl
    split at hl
    case h_2 => cases hl
    rename_i l e fx e' hg hu
    split at hl
    case h_2 => cases hl
    rename_i ety het
    obtain ⟨i2, z2, hE⟩ := hx.is het
    cases hc : (Nat.beq e e' && Nat.beq ety.size 1 && Nat.ble n 9223372036854775807 && !(Nat.beq n 0)) with
    | false => rw [hc] at hl; simp at hl
    | true =>
    rw [hc] at hl
    simp only [cond_true] at hl
    simp only [Bool.and_eq_true] at hc
    have c1 := Nat.eq_of_beq_eq_true hc.1.1.1
    have c2 := Nat.eq_of_beq_eq_true hc.1.1.2
    have c3 := Nat.le_of_ble_eq_true hc.1.2
    subst c1
    split at hl
    case h_2 => cases hl
    rename_i bs hbs
    simp only [Option.some.injEq, Prod.mk.injEq] at hl
    obtain ⟨rfl, rfl⟩ := hl
    simp only [Option.bind_eq_some_iff] at hbs
    obtain ⟨l2, hl2, hbs⟩ := hbs
    obtain ⟨rfl, hlen⟩ := sub_some hl2
    obtain ⟨b, ex, hb, rfl⟩ := hp
    obtain ⟨b', ex', ob, hb', hh, cur, pre, rest, rfl, hcur, hrel, hsl, _, _⟩ := h.live id _ hg
    rw [hb] at hb'; cases hb'
    have hv := bytesOf_rel hbs ((hrel.drop 0).take n)
    have hbl : bs.length = n := by
      have := congrArg List.length hv
      rw [Lib.byteCells_length] at this
      rw [← this, ← ((hrel.drop 0).take n).length]; exact hlen
    have hn0 : n ≠ 0 := fun e => by subst e; simp at hc
    have hne : bs ≠ [] := fun e => by subst e; simp at hbl; exact hn0 hbl.symm
    have hshape : w.shape? b = some (e, cur.size) := by simp [World.shape?, hh]
    have hsz : P.cellsOf e = 1 := by simp [Program.cellsOf, hE.info, hE.size, c2]
    have hnl : n ≤ cur.size := by
      have h1 : (List.take n (List.drop 0 l)).length = n := hlen
      have : n ≤ l.length := by simp at h1; omega
      rw [hrel.length] at this
      rw [← Array.length_toList, hcur, List.length_append]; omega
    have hcell : ∀ j x, bs[j]? = some x → w.cell? ((⟨b, 0, none⟩ : Addr).add j) = some (.int .u8 x.toNat) := fun j x hj => by
      rw [add_adr]
      have h1 : (List.take n (List.drop 0 pre))[j]? = some (.int .u8 x.toNat) := by
        rw [hv]; simp [Lib.byteCells, hj]
      have hjn : j < n := by rw [← hbl]; exact (List.getElem?_eq_some_iff.1 hj).1
      rw [List.getElem?_take, if_pos hjn, List.drop_zero] at h1
      have hj2 := (List.getElem?_eq_some_iff.1 h1).1
      simp only [World.cell?, hh, Option.isSome, Bool.false_eq_true, if_false, Nat.zero_add]
      rw [← Array.getElem?_toList, hcur, List.getElem?_append_left hj2]
      exact h1
    have hrun := Lib.run_unsafeString_row (P := P) w pt it ty e (by rw [hT.under, hu]) hsz b cur.size hshape bs hne (by rw [hbl]; exact hnl) (by rw [hbl]; exact c3) hcell
    rw [hbl] at hrun
    have hfz : w.freeze ⟨b, 0, none⟩ n = { w with heap := w.heap.setIfInBounds b (.cells cur e (0, n)) } := by
      simp only [World.freeze, if_neg hn0]
      congr 1
      apply Array.ext_getElem?
      intro k
      rw [Array.getElem?_modify, Array.getElem?_setIfInBounds]
      by_cases hk : b = k
      · subst hk
        have := (Array.getElem?_eq_some_iff.1 hh).1
        rw [if_pos rfl, if_pos rfl, hh, if_pos this]; simp
      · simp [hk]
    rw [hfz] at hrun
    exact ⟨_, β, _, hrun, rfl, Good.drop h (Nat.le_of_ble_eq_true hfid) hg hb (chg_obj hh)⟩
  · cases hl

theorem builtin_ok (hx : CxOk cx P) (h : Inv cx B β st w) (hfl : fl ≤ st.next) (b : Builtin) (tl : List TypeId) (ty : TypeId) (consts : Array Bool) {args : List V} {args' : Array Value} (hargs : All2 (VRel β) args args'.toList) :
    StepOk cx B fl β st w P (builtin b tl.toArray ty consts args') (builtinOp cx fl b tl ty args st) := by
  obtain ⟨al⟩ := args'
  simp only at hargs
  unfold builtinOp
  split
  · rename_i t tl x
    obtain ⟨x', rfl, hx1⟩ : ∃ x', al = [x'] ∧ VRel β x x' := by
      match al, hargs with
      | [x'], hr => exact ⟨x', rfl, hr.1⟩
    exact StepOk.ofV h fun v hv => run_len hx hx1 h (by simp) hv
  · rename_i t tl x
    obtain ⟨x', rfl, hx1⟩ : ∃ x', al = [x'] ∧ VRel β x x' := by
      match al, hargs with
      | [x'], hr => exact ⟨x', rfl, hr.1⟩
    exact StepOk.ofV h fun v hv => run_cap hx hx1 (by simp) hv w
  · rename_i t xt s x
    obtain ⟨s', x', rfl, hs1, hx1⟩ : ∃ s' x', al = [s', x'] ∧ VRel β s s' ∧ VRel β x x' := by
      match al, hargs with
      | [s', x'], hr => exact ⟨s', x', rfl, hr.1, hr.2.1⟩
    exact StepOk.ofVS fun v st' hv => run_append hx hs1 hx1 h hfl hv
  · rename_i t tl s x
    obtain ⟨s', x', rfl, hs1, hx1⟩ : ∃ s' x', al = [s', x'] ∧ VRel β s s' ∧ VRel β x x' := by
      match al, hargs with
      | [s', x'], hr => exact ⟨s', x', rfl, hr.1, hr.2.1⟩
    refine StepOk.ofVS fun v st' hv => ?_
    obtain ⟨v', w', q1, q2, q3⟩ := run_copy (fl := fl) (ts := (t :: tl).toArray) (ty := ty) hx hs1 hx1 h (by simp) hv
    exact ⟨v', β, w', q1, q2, q3⟩
  · rename_i t tl x
    obtain ⟨x', rfl, hx1⟩ : ∃ x', al = [x'] ∧ VRel β x x' := by
      match al, hargs with
      | [x'], hr => exact ⟨x', rfl, hr.1⟩
    refine StepOk.ofVS fun v st' hv => ?_
    obtain ⟨v', w', q1, q2, q3⟩ := run_clear (fl := fl) (ts := (t :: tl).toArray) (ty := ty) hx hx1 h (by simp) hv
    exact ⟨v', β, w', q1, q2, q3⟩
  · rename_i t tl m k
    obtain ⟨m', k', rfl, hs1, hx1⟩ : ∃ s' x', al = [s', x'] ∧ VRel β m s' ∧ VRel β k x' := by
      match al, hargs with
      | [s', x'], hr => exact ⟨s', x', rfl, hr.1, hr.2.1⟩
    split
    · rename_i st' hv
      obtain ⟨w', q1, q3⟩ := run_mapDelete (fl := fl) (ts := (t :: tl).toArray) (ty := ty) hx (by simp) hs1 hx1 h hv
      exact ⟨_, β, w', by simp only [builtin, Sem.run_bind, q1, Result.andThen_ok, Sem.run_pure], ⟨#[], rfl, trivial⟩, q3⟩
    · trivial
  · rename_i id off len cap fx
    obtain ⟨x', rfl, hx1⟩ : ∃ x', al = [x'] ∧ VRel β (.a (.c (.sl id off len cap fx))) x' := by
      match al, hargs with
      | [x'], hr => exact ⟨x', rfl, hr.1⟩
    cases hc : Nat.beq cap 0 with
    | true => trivial
    | false =>
      have hc0 : cap ≠ 0 := fun e => by subst e; simp at hc
      obtain ⟨b, e, hb, rfl⟩ := hx1
      refine ⟨adr b off, β, w, ?_, ⟨b, e, hb, rfl⟩, Good.refl h⟩
      have := Lib.run_unsafeSliceData_row (P := P) w tl.toArray ty ⟨b, off, none⟩ len (bif fx then cap + e else cap) (by cases fx <;> simp <;> omega)
      simp only [builtin, Sem.run_bind, this, Result.andThen_ok, Sem.run_pure]; rfl
  · rename_i n c
    obtain ⟨x', rfl, hx1⟩ : ∃ x', al = [x'] ∧ VRel β (.a (.c (.sc (.slice none n c)))) x' := by
      match al, hargs with
      | [x'], hr => exact ⟨x', rfl, hr.1⟩
    have e1 : x' = _ := hx1
    subst e1
    refine ⟨.pointer none, β, w, ?_, rfl, Good.refl h⟩
    have := Lib.run_unsafeSliceData_nil (P := P) w tl.toArray ty n c
    simp only [builtin, Sem.run_bind, this, Result.andThen_ok, Sem.run_pure]
  · rename_i pt it p n
    obtain ⟨s', x', rfl, hs1, hx1⟩ : ∃ s' x', al = [s', x'] ∧ VRel β p s' ∧ VRel β n x' := by
      match al, hargs with
      | [s', x'], hr => exact ⟨s', x', rfl, hr.1, hr.2.1⟩
    exact StepOk.ofVS fun v st' hv => run_unsafeString hx hs1 hx1 h hv
  · rename_i x xs
    obtain ⟨x', xs', rfl, hx1, hxs⟩ : ∃ x' xs', al = x' :: xs' ∧ VRel β x x' ∧ All2 (VRel β) xs xs' := by
      match al, hargs with
      | x' :: xs', hr => exact ⟨x', xs', rfl, hr.1, hr.2⟩
    exact StepOk.ofV h fun v hv => fold2_rel (f := max2) (g := Builtin.max2) (fun _ _ _ _ _ q1 q2 q3 => max2_rel q1 q2 q3) hxs hx1 hv w
  · rename_i x xs
    obtain ⟨x', xs', rfl, hx1, hxs⟩ : ∃ x' xs', al = x' :: xs' ∧ VRel β x x' ∧ All2 (VRel β) xs xs' := by
      match al, hargs with
      | x' :: xs', hr => exact ⟨x', xs', rfl, hr.1, hr.2⟩
    exact StepOk.ofV h fun v hv => fold2_rel (f := min2) (g := Builtin.min2) (fun _ _ _ _ _ q1 q2 q3 => min2_rel q1 q2 q3) hxs hx1 hv w
  · trivial

theorem step_ok (hx : CxOk cx P) {fr : Fr} {a : Act} (h : Inv cx B β st w) (hfl : fl ≤ st.next) (o : Oper) (hr : EvOk β fr a o.op.operands.toList) : StepOk cx B fl β st w P (execOp a.eval o) (stepOp cx fl fr st o.op o.type) := by
  obtain ⟨dst, op, type, pos, after, guard⟩ := o
  simp only at hr ⊢
  cases op
  case move x =>
    simp only [stepOp, execOp]
    cases hv : ev fr x with
    | none => trivial
    | some v => exact ⟨_, β, w, rfl, hr x (by simp [Op.operands]) v hv, Good.refl h⟩
  case assign x =>
    simp only [stepOp, execOp]
    cases hv : ev fr x with
    | none => trivial
    | some v => exact ⟨_, β, w, rfl, hr x (by simp [Op.operands]) v hv, Good.refl h⟩
  case pick c p q =>
    simp only [stepOp, execOp]
    split
    · rename_i hb
      simp only [Option.bind_eq_some_iff] at hb
      obtain ⟨u', ⟨u, hu, hu'⟩, hb⟩ := hb
      have := toBool_rel (resB_rel h.facts (hr c (by simp [Op.operands]) u hu) hu') hb
      cases hv : ev fr p with
      | none => trivial
      | some v => exact ⟨_, β, w, by simp [this, asBool], hr p (by simp [Op.operands]) v hv, Good.refl h⟩
    · rename_i hb
      simp only [Option.bind_eq_some_iff] at hb
      obtain ⟨u', ⟨u, hu, hu'⟩, hb⟩ := hb
      have := toBool_rel (resB_rel h.facts (hr c (by simp [Op.operands]) u hu) hu') hb
      cases hv : ev fr q with
      | none => trivial
      | some v => exact ⟨_, β, w, by simp [this, asBool], hr q (by simp [Op.operands]) v hv, Good.refl h⟩
    · trivial
  case alloc t =>
    simp only [stepOp, execOp]
    split
    · rename_i ty ht
      obtain ⟨v', β', w', q1, q2, q3⟩ := run_alloc (fl := fl) hx ht h hfl
      exact ⟨v', β', w', by simp [q1], q2, q3⟩
    · trivial
  case box t x =>
    simp only [stepOp, execOp]
    split
    · rename_i l hl
      simp only [Option.bind_eq_some_iff] at hl
      obtain ⟨u, hu, hl⟩ := hl
      obtain ⟨v', β', w', q1, q2, q3⟩ := run_box (P := P) (fl := fl) (t := t) (hr x (by simp [Op.operands]) u hu) hl h hfl
      exact ⟨v', β', w', by simp [q1], q2, q3⟩
    · trivial
  case build t parts =>
    simp only [stepOp, execOp]
    refine StepOk.ofV h fun v hv => ?_
    simp only [Option.bind_eq_some_iff] at hv
    obtain ⟨ps, hp, hv⟩ := hv
    have hp' := evParts_relM (a := a) (β := β) (l := parts.toList) (fun x hx => hr x (by simpa [Op.operands] using hx)) hp
    obtain ⟨v', q1, q2⟩ := run_build hx hp' hv w
    exact ⟨v', by rw [← q1]; congr 2; apply Array.toList_inj.1; simp, q2⟩
  case buildSlice t len parts =>
    simp only [stepOp, execOp]
    refine StepOk.ofVS fun v st' hv => ?_
    simp only [Option.bind_eq_some_iff] at hv
    obtain ⟨ps, hp, hv⟩ := hv
    have hp' := evParts_relM (a := a) (β := β) (l := parts.toList) (fun x hx => hr x (by simpa [Op.operands] using hx)) hp
    obtain ⟨v', β', w', q1, q2, q3⟩ := run_buildSlice hx hp' h hfl hv
    exact ⟨v', β', w', by rw [← q1]; congr 2; apply Array.toList_inj.1; simp, q2, q3⟩
  case load t x =>
    simp only [stepOp, execOp]
    split
    · rename_i ty p ht hp
      simp only [Option.bind_eq_some_iff] at hp
      obtain ⟨u, hu, hp⟩ := hp
      have := toC_some hp; subst this
      exact StepOk.ofV h fun v hv => run_loadVar hx ht h (hr x (by simp [Op.operands]) _ hu) hv
    · trivial
  case store t x y =>
    simp only [stepOp, execOp]
    split
    · rename_i ty p l ht hp hl
      simp only [Option.bind_eq_some_iff] at hp hl
      obtain ⟨u, hu, hp⟩ := hp
      obtain ⟨u2, hu2, hl⟩ := hl
      have := toC_some hp; subst this
      cases hc : (Nat.beq l.length ty.size && !(Nat.beq ty.size 0)) with
      | false => trivial
      | true =>
      simp only [Bool.and_eq_true] at hc
      have hlen := Nat.eq_of_beq_eq_true hc.1
      exact StepOk.ofS fun st' hs => run_storeVar hx ht h (hr x (by simp [Op.operands]) _ hu) (hr y (by simp [Op.operands]) _ hu2) hl hlen hs
    · trivial
  case nilCheck x =>
    simp only [stepOp]
    split
    · rename_i id off hv
      obtain ⟨b, e, hb, h2⟩ := hr x (by simp [Op.operands]) _ hv
      exact ⟨adr b off, β, w, by simp only [execOp]; rw [h2]; rfl, ⟨b, e, hb, rfl⟩, Good.refl h⟩
    · rename_i f cs hv
      obtain ⟨bs, hb, h2⟩ := hr x (by simp [Op.operands]) _ hv
      exact ⟨_, β, w, by simp only [execOp]; rw [h2]; rfl, ⟨bs, hb, rfl⟩, Good.refl h⟩
    · rename_i q hv
      have h2 : a.eval x = _ := hr x (by simp [Op.operands]) _ hv
      exact ⟨_, β, w, by simp only [execOp]; rw [h2]; rfl, rfl, Good.refl h⟩
    · trivial
  case binOp op t x y e =>
    simp only [stepOp, execOp]
    split
    · rename_i u v hu hv
      refine StepOk.ofV h fun r hr' => run_binop hx h.facts (hr x (by simp [Op.operands]) _ hu) (hr y (by simp [Op.operands]) _ hv) hr' x y w
    · trivial
  case unOp op t x =>
    simp only [stepOp, execOp]
    refine StepOk.ofV h fun v hv => ?_
    simp only [Option.bind_eq_some_iff] at hv
    obtain ⟨u', ⟨u, hu, hu'⟩, hv⟩ := hv
    exact run_unop (resB_rel h.facts (hr x (by simp [Op.operands]) _ hu) hu') hv w
  case convert s d x =>
    simp only [stepOp, execOp]
    refine StepOk.ofV h fun v hv => ?_
    simp only [Option.bind_eq_some_iff] at hv
    obtain ⟨u, hu, hv⟩ := hv
    exact run_conv hx (hr x (by simp [Op.operands]) _ hu) h hv
  case makeFunc fn first caps =>
    cases fn <;> try trivial
    rename_i f
    simp only [stepOp, execOp]
    cases hf : Nat.beq first.size 0 with
    | false => trivial
    | true =>
    simp only [cond_true]
    split
    · rename_i ids hi
      simp only [Option.bind_eq_some_iff] at hi
      obtain ⟨vs, hvs, hi⟩ := hi
      have hvr := evArgs_relM (a := a) (β := β) (l := caps.toList) (fun x hx => hr x (by simp [Op.operands]; exact .inr (by simpa using hx))) hvs
      obtain ⟨bs, hbs, hl⟩ := capIds_rel hvr hi
      have hf0 : first = #[] := by
        have := Nat.eq_of_beq_eq_true hf
        exact Array.eq_empty_of_size_eq_zero this
      subst hf0
      refine ⟨_, β, w, ?_, ⟨bs, hbs, rfl⟩, Good.refl h⟩
      have : caps.map a.eval = (bs.map fun b => adr b 0).toArray := by
        apply Array.toList_inj.1; simp [← hl]
      simp [Instr.makeFunc, this]
    · trivial
  case makeMap t r =>
    cases r with
    | some r => trivial
    | none =>
      simp only [stepOp, execOp]
      obtain ⟨v', β', w', q1, q2, q3⟩ := run_makeMap (P := P) (fl := fl) h hfl t
      exact ⟨v', β', w', by simp [q1], q2, q3⟩
  case makeSlice t l c =>
    simp only [stepOp, execOp]
    split
    · rename_i u v hu hv
      exact StepOk.ofVS fun r st' hr' => run_makeSlice hx (hr l (by simp [Op.operands]) _ hu) (hr c (by simp [Op.operands]) _ hv) h hfl hr'
    · trivial
  case slice t x lo hi mx =>
    simp only [stepOp, execOp]
    split
    · rename_i u l2 h2 m2 hu hl hh hm
      have ho : ∀ y ∈ (#[x] ++ lo.toArray ++ hi.toArray ++ mx.toArray).toList, ∀ v, ev fr y = some v → VRel β v (a.eval y) := hr
      refine StepOk.ofV h fun v hv => run_sliceAt hx (hr x (by simp [Op.operands]) _ hu) (evO_rel (fun y hy => ho y (by subst hy; simp)) hl) (evO_rel (fun y hy => ho y (by subst hy; simp)) hh) (evO_rel (fun y hy => ho y (by subst hy; simp)) hm) hv w
    · trivial
  case fieldAddr t x f =>
    simp only [stepOp, execOp]
    refine StepOk.ofV h fun v hv => ?_
    simp only [Option.bind_eq_some_iff] at hv
    obtain ⟨u, hu, hv⟩ := hv
    exact run_fieldAt hx (hr x (by simp [Op.operands]) _ hu) hv w
  case field t x f =>
    simp only [stepOp, execOp]
    refine StepOk.ofV h fun v hv => ?_
    simp only [Option.bind_eq_some_iff] at hv
    obtain ⟨u, hu, hv⟩ := hv
    exact run_field hx (hr x (by simp [Op.operands]) _ hu) hv w
  case indexAddr t x i =>
    simp only [stepOp, execOp]
    split
    · rename_i u v hu hv
      exact StepOk.ofV h fun r hr' => run_indexAt hx (hr x (by simp [Op.operands]) _ hu) (hr i (by simp [Op.operands]) _ hv) hr' w
    · trivial
  case index t x i =>
    simp only [stepOp, execOp]
    split
    · rename_i u v hu hv
      exact StepOk.ofV h fun r hr' => run_index hx (hr x (by simp [Op.operands]) _ hu) (hr i (by simp [Op.operands]) _ hv) hr' w
    · trivial
  case lookup t m k ok =>
    simp only [stepOp, execOp]
    split
    · rename_i u v hu hv
      exact StepOk.ofV h fun r hr' => run_lookup hx (hr m (by simp [Op.operands]) _ hu) (hr k (by simp [Op.operands]) _ hv) h hr'
    · trivial
  case mapUpdate t m k x =>
    simp only [stepOp, execOp]
    split
    · rename_i u v y hu hv hy
      exact StepOk.ofS fun st' hs => run_mapUpdate hx (hr m (by simp [Op.operands]) _ hu) (hr k (by simp [Op.operands]) _ hv) (hr x (by simp [Op.operands]) _ hy) h hs
    · trivial
  case range t x =>
    simp only [stepOp, execOp]
    split
    · rename_i ty v ht hv
      exact StepOk.ofVS fun r st' hs => run_range hx ht (hr x (by simp [Op.operands]) _ hv) h hfl hs
    · trivial
  case next it isS =>
    simp only [stepOp, execOp]
    split
    · rename_i v hv
      have := run_next (P := P) (cx := cx) (B := B) (fl := fl) (isS := isS) type (hr it (by simp [Op.operands]) _ hv) h
      exact StepOk.ofR this
    · trivial
  case entry it =>
    simp only [stepOp, execOp]
    refine StepOk.ofV h fun v hv => ?_
    simp only [Option.bind_eq_some_iff] at hv
    obtain ⟨u, hu, hv⟩ := hv
    exact run_entry (hr it (by simp [Op.operands]) _ hu) h hv
  case extract t ix =>
    simp only [stepOp, execOp]
    split
    · rename_i l hv
      split
      · rename_i x hx'
        obtain ⟨arr, h2, h3⟩ := hr t (by simp [Op.operands]) _ hv
        obtain ⟨y, hy, hxy⟩ := h3.get ix hx'
        have hy' : arr[ix]? = some y := by simpa using hy
        exact ⟨y, β, w, by simp [h2, Instr.extract, hy'], hxy, Good.refl h⟩
      · trivial
    · trivial
  case call c =>
    obtain ⟨callee, cargs, atypes⟩ := c
    cases callee with
    | invoke r n => trivial
    | builtin b =>
      simp only [stepOp]
      split
      · rename_i args hargs
        have hvr := evArgs_relM (a := a) (β := β) (l := cargs.toList) (fun x hx => hr x (by simp [Op.operands, Call.operands]; simpa using hx)) hargs
        exact builtin_ok hx h hfl b atypes.toList type _ (args' := cargs.map a.eval) (by simpa using hvr)
      · trivial
    | value f =>
      simp only [stepOp]
      split
      · rename_i g caps args hf hargs
        have hvr := evArgs_relM (a := a) (β := β) (l := cargs.toList) (fun x hx => hr x (by simp [Op.operands, Call.operands]; exact .inr (by simpa using hx))) hargs
        obtain ⟨bs, hbs, h2⟩ := hr f (by simp [Op.operands, Call.operands]) _ hf
        refine ⟨cargs.map a.eval ++ (bs.map fun b => adr b 0).toArray, ?_, ?_⟩
        · rw [Array.toList_append, Array.toList_map]
          refine hvr.append ?_
          have : ∀ {ids : List Nat} {bs : List Nat}, All2 (fun id b => ∃ e, β id = some (b, e)) ids bs → All2 (VRel β) (ids.map fun id => V.a (.c (.ptr id 0))) (bs.map fun b => adr b 0) := by
            intro ids
            induction ids with
            | nil => intro bs hb; cases bs with | nil => trivial | cons _ _ => exact hb.elim
            | cons i ids ih => intro bs hb; cases bs with
              | nil => exact hb.elim
              | cons b bs => exact ⟨⟨b, hb.1.choose, hb.1.choose_spec, rfl⟩, ih hb.2⟩
          exact this hbs
        · simp [execOp, resolve, invoke, h2, Deferred.ofValue]
      · trivial
  all_goals trivial
end Go.Am
