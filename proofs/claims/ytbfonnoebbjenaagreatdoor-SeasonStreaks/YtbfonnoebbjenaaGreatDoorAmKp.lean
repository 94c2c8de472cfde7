/- On the season seat's program: what is kept over a call, what must lie in memory; the state that a call begins with. -/
import Derived.Test.YtbfonnoebbjenaaGreatDoorAmZ
import Derived.Test.YtbfonnoebbjenaaGreatDoorAmSy
namespace Go.Proofs.Tryz
open Go Go.Am
set_option maxRecDepth 100000

/-- What was there is there still. -/
structure Kept (w w' : World) : Prop where
  os : w'.os = w.os
  tape : w'.tape = w.tape
  output : w'.output = w.output
  size : w.heap.size ≤ w'.heap.size
  block : ∀ k, k < w.heap.size → w'.heap[k]? = w.heap[k]?

theorem Kept.of {cx : Cx} {B fl : Nat} {β β' : Be} {st st' : St} {w w' : World} (hn : ∀ id o, fl ≤ id → st.heap.get id ≠ some o) (h : Good cx B fl β st w β' st' w') : Kept w w' :=
  ⟨h.os, h.tape, h.output, h.size, fun k hk => h.frame k hk fun id o e hid ho _ => hn id o hid ho⟩

theorem Kept.trans {a b c : World} (h : Kept a b) (k : Kept b c) : Kept a c :=
  ⟨k.os.trans h.os, k.tape.trans h.tape, k.output.trans h.output, Nat.le_trans h.size k.size, fun i hi => (k.block i (Nat.lt_of_lt_of_le hi h.size)).trans (h.block i hi)⟩

/-- What keeps all keeps a state. -/
theorem Kept.good {cx : Cx} {B fl : Nat} {β : Be} {st : St} {w w' : World} (hi : Inv cx B β st w) (h : Kept w w') : Good cx B fl β st w β st w' := by
  refine ⟨Ext.refl _, fun _ _ => rfl, ⟨fun id p hp => ?_, fun id o ho => ?_, hi.inj, fun b o v hv => ?_, Nat.le_trans hi.size h.size, hi.facts⟩, fun _ _ => rfl, Nat.le_refl _, h.os, h.tape, h.output, h.size, fun k hk _ => h.block k hk, fun id o b e h1 h2 h3 => .inr ⟨id, o, e, h1, h2, h3⟩⟩
  · have := hi.low id p hp
    exact ⟨this.1, this.2.1, Nat.lt_of_lt_of_le this.2.2 h.size⟩
  · obtain ⟨b, e, ob, h1, h2, h3⟩ := hi.live id o ho
    exact ⟨b, e, ob, h1, (h.block b (hi.low _ _ h1).2.2).trans h2, h3⟩
  · obtain ⟨h1, h2⟩ := hi.base b o v hv
    refine ⟨h1, ?_⟩
    rw [← h2]
    simp only [World.cell?]
    rw [h.block b (Nat.lt_of_lt_of_le h1 hi.size)]

/-- The program's table of kinds lies where the program lays it. -/
def Laid (w : World) : Prop := 0 < w.heap.size ∧ ∀ o v, kindsT[o]? = some v → w.cell? ⟨0, o, none⟩ = some v

theorem Laid.kept {w w' : World} (h : Laid w) (k : Kept w w') : Laid w' :=
  ⟨Nat.lt_of_lt_of_le h.1 k.size, fun o v hv => by
    rw [← h.2 o v hv]
    simp only [World.cell?]
    rw [k.block 0 h.1]⟩

/-- The context of a proof: primitives, the functions and the definitions of its symbols, the rows that are handed. -/
noncomputable def cxW (p : FuncId → Option (Nat → List V → St → Option (V × St))) (g : Nat → List Int → Int) (d : Nat → Option DT) (o : Nat → Option (List C)) : Cx := { cx with prim := p, fns := g, defs := d, outer := o }

section
variable {p : FuncId → Option (Nat → List V → St → Option (V × St))} {g : Nat → List Int → Int} {d : Nat → Option DT} {o : Nat → Option (List C)}

theorem cxWOk : CxOk (cxW p g d o) prog := CxOk.to (cx := cx) rfl rfl rfl rfl cxOk

theorem laid_base {cx' : Cx} (hb : cx'.base = cx.base) {B : Nat} {β : Be} {st : St} {w : World} (hi : Inv cx' B β st w) : Laid w := by
  have key : ∀ o v, kindsT[o]? = some v → 0 < B ∧ w.cell? ⟨0, o, none⟩ = some v := fun o v hv => by
    refine hi.base 0 o v (hi.facts.base 0 o v ?_)
    rw [hb]
    show baseOf 0 o = some v
    exact hv
  refine ⟨?_, fun o v hv => (key o v hv).2⟩
  have h0 : ∃ v, kindsT[0]? = some v := ⟨_, rfl⟩
  obtain ⟨v, hv⟩ := h0
  exact Nat.lt_of_lt_of_le (key 0 v hv).1 hi.size

theorem base_of {w : World} (h : Laid w) : ∀ b o v, cx.base b o = some v → w.cell? ⟨b, o, none⟩ = some v := by
  intro b o v hv
  have hv' : baseOf b o = some v := hv
  unfold baseOf at hv'
  cases hb : Nat.beq b 0 with
  | false => rw [hb] at hv'; cases hv'
  | true =>
    rw [hb] at hv'
    have := Nat.eq_of_beq_eq_true hb; subst this
    exact h.2 o v hv'

theorem cell_lt {w : World} {b o : Nat} {v : Value} (h : w.cell? ⟨b, o, none⟩ = some v) : b < w.heap.size := by
  simp only [World.cell?] at h
  split at h
  · rename_i hb; exact (Array.getElem?_eq_some_iff.1 hb).1
  · cases h

/-- What is in memory, as symbols' ground. -/
def memOf (w : World) : Nat → Nat → Option Value := fun b o => w.cell? ⟨b, o, none⟩

/-- A call's first state: nothing of its own. -/
theorem inv0 {w : World} (ρ : Env) (hm : ρ.mem = memOf w) (hf : ρ.f = g) (hd : ∀ m x, d m = some x → ρ.v m = x.eval ρ) (h : Laid w)
    (ho : ∀ k l, o k = some l → ∀ j c, l[j]? = some c → ∃ v, w.cell? ⟨(ρ.out k).1, (ρ.out k).2 + j, none⟩ = some v ∧ CRel ⟨fun _ => none, ρ⟩ c v ∧ scal v = true) : Inv (cxW p g d o) w.heap.size ⟨fun _ => none, ρ⟩ ⟨.nil, 0⟩ w :=
  ⟨fun id p hp => (by cases hp), fun id o ho => (by simp [T.get] at ho), fun i j oi oj b e e' hi => (by simp [T.get] at hi), fun b o v hv => by
    have hv' : memOf w b o = some v := by rw [← hm]; exact hv
    exact ⟨cell_lt hv', hv'⟩, Nat.le_refl _, ⟨fun p hp => (by cases hp), hf, hd, fun b o v hv => by rw [hm]; exact base_of h b o v hv, fun k l hk j c hj => by rw [hm]; exact ho k l hk j c hj⟩⟩
end

theorem inv00 {w : World} (h : Laid w) : Inv cx w.heap.size ⟨fun _ => none, ⟨fun _ => 0, fun _ _ => 0, fun _ => (0, 0), memOf w⟩⟩ ⟨.nil, 0⟩ w :=
  ⟨fun id p hp => (by cases hp), fun id o ho => (by simp [T.get] at ho), fun i j oi oj b e e' hi => (by simp [T.get] at hi), fun b o v hv => ⟨cell_lt hv, hv⟩, Nat.le_refl _, ⟨fun p hp => (by cases hp), rfl, fun m x hx => (by cases hx), base_of h, fun k l hk => (by cases hk)⟩⟩

theorem Kept.ofNil {cx : Cx} {B : Nat} {β β' : Be} {n : Nat} {st' : St} {w w' : World} (h : Good cx B 0 β ⟨.nil, n⟩ w β' st' w') : Kept w w' := Kept.of (fun id o _ ho => by simp [T.get] at ho) h
end Go.Proofs.Tryz
