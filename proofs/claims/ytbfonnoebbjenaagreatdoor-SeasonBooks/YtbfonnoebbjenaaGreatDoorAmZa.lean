/- The season seat's context of the abstract machine: what the kernel checks of it. The season seat's context of the abstract machine stands to the seat's program as it must. On the season seat's program: what is kept over a call, what must lie in memory; the state that a call begins with. -/
import Derived.Test.YtbfonnoebbjenaaGreatDoorAmP
import Derived.Lib.MakeNoZero
import Derived.Laws.Externs
import Derived.Test.YtbfonnoebbjenaaGreatDoorAmSy
namespace Go.Proofs.Tryz
open Go Go.Am

theorem namesOk : (prog.funcs.toList.all fun F => !(F.name == "runtime.NumGoroutine")) = true := by kernel_rfl
theorem sizeOk : Nat.ble prog.funcs.size 600 = true := by kernel_rfl
noncomputable def planFn (f : Nat) : Bool := match prog.funcs[f]? with
  | some F => (match F.body with | some c => plansOk cx f c | none => true)
  | none => true
theorem plansAll : (nats 600).all planFn = true := by kernel_rfl

noncomputable def eqOk (t : TypeId) : Bool := !(prog.stoodInHeld t) && !(prog.eqGuardType prog.depth t) && (match prog.underlying t with | some (.struct fs) => fs.toList.all fun f => !(f.name == "_") | some (.array _ _) => true | _ => false)
theorem eqsAll : eqTs.all eqOk = true := by kernel_rfl
theorem h224 : prog.funcs[224]? = some f224 := by kernel_rfl
theorem n224 : (f224.name == "runtime.NumGoroutine") = false := by kernel_rfl
theorem b224 : f224.body.isNone = true := by kernel_rfl
theorem x224 : Extern.findNext f224 = none := by kernel_rfl
theorem e224 : Extern.find f224 = some Extern.AbiNoEscape.same := by kernel_rfl
theorem h250 : prog.funcs[250]? = some f250 := by kernel_rfl
theorem n250 : (f250.name == "runtime.NumGoroutine") = false := by kernel_rfl
theorem b250 : f250.body.isNone = true := by kernel_rfl
theorem x250 : Extern.findNext f250 = none := by kernel_rfl
theorem r250 : f250.resultTypes = #[241] := by kernel_rfl
theorem u241 : prog.underlying 241 = some (.slice 5) := by kernel_rfl
theorem size5 : (match cx.ty 5 with | some ty => Nat.beq ty.size 1 | none => false) = true := by kernel_rfl
theorem mixed : prog.follows .mixedOrders = true := by kernel_rfl
end Go.Proofs.Tryz

namespace Go.Proofs.Tryz
open Go Go.Am
set_option maxRecDepth 100000

theorem allNats {n : Nat} {p : Nat → Bool} (h : (nats n).all p = true) (f : Nat) (hf : f < n) : p f = true := List.all_eq_true.1 h f (mem_nats.2 hf)

theorem cxOk : CxOk cx prog where
  fn f F h := by
    simp only [cx, fnBad, memN, cond_false] at h
    refine ⟨h, ?_⟩
    have := List.all_eq_true.1 namesOk F (Array.mem_toList_iff.2 (Array.mem_of_getElem? h))
    simpa using this
  plans f F c h hb := by
    simp only [cx, fnBad, memN, cond_false] at h
    have hlt : f < 600 := by
      have h1 := (Array.getElem?_eq_some_iff.1 h).1
      have h2 := Nat.le_of_ble_eq_true sizeOk
      omega
    have := allNats plansAll f hlt
    unfold planFn at this
    rw [h] at this
    simp only [hb] at this
    exact this
  ty t := rfl
  eqs t ht := by
    have hm : t ∈ eqTs := memN_iff.1 ht
    have := List.all_eq_true.1 eqsAll t hm
    simp only [eqOk, Bool.and_eq_true, Bool.not_eq_true'] at this
    refine ⟨this.1.1, this.1.2, fun fs hfs f hf => ?_⟩
    have h3 := this.2
    rw [hfs] at h3
    have := List.all_eq_true.1 h3 f hf
    simpa using this


theorem e250 : Extern.find f250 = some (Extern.BytealgMakeNoZero.makeNoZero f250.params f250.resultTypes) := by kernel_rfl

theorem digits_int : ∀ (n t : Nat) (acc : Array Value), ScalL acc.toList → ScalL (Extern.BytealgMakeNoZero.digits n t acc).toList
  | 0, _, _, h => h
  | n + 1, t, acc, h => by
    rw [Extern.BytealgMakeNoZero.digits]
    refine digits_int n _ _ fun x hx => ?_
    simp only [Array.toList_push, List.mem_append, List.mem_singleton] at hx
    rcases hx with hx | rfl
    · exact h x hx
    · rfl

theorem run_make (ps : Array TypeId) (n : Nat) (hn : n ≤ 1000000) (w : World) :
    ∃ cs : Array Value, (Extern.BytealgMakeNoZero.makeNoZero ps #[241] #[.int .i64 n]).run prog w = .ok (.slice (some ⟨w.heap.size, 0, none⟩) n cs.size) (w.drew.drew.alloc (.cells cs 5)) ∧ n ≤ cs.size ∧ ScalL cs.toList := by
  have hdef : Extern.BytealgMakeNoZero.makeNoZero ps #[241] #[.int .i64 n] =
      (do
        let .slice elem ← underlying 241 | stuck "bytealg.MakeNoZero: slice type expected"
        if (n : Int) < 0 || (n : Int) > 2 ^ 48 then runtimePanic (.error "makeslice: len out of range")
        let cap ← choose (.appendCap (n : Int).toNat 0 elem)
        askRoom cap
        let bytes ← choose (.extern "internal/bytealg.MakeNoZero.bytes" 0)
        let a ← newRow elem (Extern.BytealgMakeNoZero.digits cap bytes #[])
        pure (.slice (some a) (n : Int).toNat cap)) := rfl
  refine ⟨Extern.BytealgMakeNoZero.digits (grownCap w n 0 5) ((Question.extern "internal/bytealg.MakeNoZero.bytes" 0).cut (w.tape (w.drawn + 1) (.extern "internal/bytealg.MakeNoZero.bytes" 0))) #[], ?_, ?_, digits_int _ _ _ (fun x hx => by cases hx)⟩
  · rw [hdef]
    have h1 : ¬ (n : Int) < 0 := by omega
    have h2 : ¬ (281474976710656 : Int) < (n : Int) := by omega
    simp [run_underlying u241, h1, h2, Question.forced, newRow, Lib.size_digits, grownCap]
  · rw [Lib.size_digits]
    simpa using grownCap_ge w n 0 5

theorem repU_rel {β : Be} : ∀ (n : Nat) (l : List Value), l.length = n → ScalL l → All2 (CRel β) (repU n) l
  | 0, [], _, _ => trivial
  | n + 1, x :: l, h, hs => ⟨hs x (by simp), repU_rel n l (by simpa using h) fun y hy => hs y (by simp [hy])⟩
  | 0, _ :: _, h, _ => by simp at h
  | _ + 1, [], h, _ => by simp at h

theorem primsOkG {cx' : Cx} (hty : cx'.ty = cx.ty) (hprim : cx'.prim = cx.prim) (B : Nat) : PrimsOk cx' prog B := by
  intro f p hp fl β st w args args' v st' hi hfl ha hpv
  rw [hprim] at hp
  simp only [cx, primOf] at hp
  cases h1 : Nat.beq f 224 with
  | true =>
    rw [h1] at hp
    simp only [cond_true, Option.some.injEq] at hp; subst hp
    have := Nat.eq_of_beq_eq_true h1; subst this
    unfold primSame at hpv
    split at hpv
    case h_2 => cases hpv
    rename_i x
    simp only [Option.some.injEq, Prod.mk.injEq] at hpv
    obtain ⟨rfl, rfl⟩ := hpv
    obtain ⟨x', rfl, hx1⟩ : ∃ x', args' = #[x'] ∧ VRel β x x' := by
      obtain ⟨l⟩ := args'
      match l, ha with
      | [x'], hr => exact ⟨x', rfl, hr.1⟩
    refine .inl ⟨x', w, ?_, β, hx1, Good.refl hi⟩
    rw [run_callFunc_extern h224 n224 b224 x224 e224]
    rfl
  | false =>
    rw [h1] at hp
    cases h2 : Nat.beq f 250 with
    | false => rw [h2] at hp; simp at hp
    | true =>
      rw [h2] at hp
      simp only [cond_true, cond_false, Option.some.injEq] at hp; subst hp
      have := Nat.eq_of_beq_eq_true h2; subst this
      unfold primMake at hpv
      split at hpv
      case h_2 => cases hpv
      rename_i n
      cases hn : Nat.ble n 1000000 with
      | false => rw [hn] at hpv; simp at hpv
      | true =>
      rw [hn] at hpv
      simp only [cond_true, Option.some.injEq, Prod.mk.injEq] at hpv
      obtain ⟨rfl, rfl⟩ := hpv
      have hn' := Nat.le_of_ble_eq_true hn
      obtain rfl : args' = #[.int .i64 n] := by
        obtain ⟨l⟩ := args'
        match l, ha with
        | [x'], hr => have e : x' = _ := hr.1; subst e; rfl
      obtain ⟨cs, q1, q2, q3⟩ := run_make f250.params n hn' w
      obtain ⟨ty5, ht5, hs5⟩ : ∃ ty, cx.ty 5 = some ty ∧ ty.size = 1 := by
        have := size5
        split at this
        · rename_i ty ht; exact ⟨ty, ht, Nat.eq_of_beq_eq_true this⟩
        · cases this
      refine .inl ⟨.slice (some ⟨w.heap.size, 0, none⟩) n cs.size, w.drew.drew.alloc (.cells cs 5), ?_, upd β st.next (w.heap.size, cs.size - n), ⟨w.heap.size, cs.size - n, upd_self _ _ _, ?_⟩, ?_⟩
      · rw [run_callFunc_extern h250 n250 b250 x250 e250, r250, q1]; rfl
      · simp only [cond_true]; congr 1; omega
      · refine Good.alloc hi hfl (ob := .cells cs 5) ⟨cs, cs.toList.take n, cs.toList.drop n, rfl, (List.take_append_drop n _).symm, repU_rel n _ (by simp; omega) (fun x hx => q3 x (List.mem_of_mem_take hx)), q3, fun h => (by cases h), fun _ => ⟨ty5, by rw [hty]; exact ht5, by simp [hs5]⟩⟩ rfl rfl rfl rfl

theorem primsOk (B : Nat) : PrimsOk cx prog B := primsOkG rfl rfl B

/-- A call on the seat's program: what the evaluator says. -/
theorem callOk {B fl n : Nat} {β : Be} {st : St} {w : World} {f : FuncId} {args : List V} {args' : Array Value} {K : V → St → Bool} (hk : callF cx (Am.run cx n) fl f args st K = true) (hfl : fl ≤ st.next) (h : Inv cx B β st w) (ha : All2 (VRel β) args args'.toList) :
    CallRet prog f args' w fun v' w' => ∃ v st' β', K v st' = true ∧ VRel β' v v' ∧ Good cx B fl β st w β' st' w' := call_ok mixed cxOk (primsOk B) hk hfl h ha
end Go.Proofs.Tryz

namespace Go.Proofs.Tryz
open Go Go.Am
set_option maxRecDepth 100000

/-- What was there is there still. -/
structure Kept (w w' : World) : Prop where
  os : w'.os = w.os
  tape : w'.tape = w.tape
  output : w'.output = w.output
  size : w.heap.size ≤ w'.heap.size
  block : ∀ k, k < w.heap.size → w'.heap[k]? = w.heap[k]?

theorem Kept.of {cx : Cx} {B fl : Nat} {β β' : Be} {st st' : St} {w w' : World} (hn : ∀ id o, fl ≤ id → st.heap.get id ≠ some o) (h : Good cx B fl β st w β' st' w') : Kept w w' :=
  ⟨h.os, h.tape, h.output, h.size, fun k hk => h.frame k hk fun id o _ hid ho _ => hn id o hid ho⟩

theorem Kept.trans {a b c : World} (h : Kept a b) (k : Kept b c) : Kept a c :=
  ⟨k.os.trans h.os, k.tape.trans h.tape, k.output.trans h.output, Nat.le_trans h.size k.size, fun i hi => (k.block i (Nat.lt_of_lt_of_le hi h.size)).trans (h.block i hi)⟩

/-- What keeps all keeps a state. -/
theorem Kept.good {cx : Cx} {B fl : Nat} {β : Be} {st : St} {w w' : World} (hi : Inv cx B β st w) (h : Kept w w') : Good cx B fl β st w β st w' := by
  refine ⟨Ext.refl _, fun _ _ => rfl, ⟨fun id p hp => ?_, fun id o ho => ?_, hi.inj, fun b o v hv => ?_, Nat.le_trans hi.size h.size, hi.facts⟩, fun _ _ => rfl, Nat.le_refl _, h.os, h.tape, h.output, h.size, fun k hk _ => h.block k hk, fun id o b e h1 h2 h3 => .inr ⟨id, o, e, h1, h2, h3⟩⟩
  · have := hi.low id p hp
    exact ⟨this.1, this.2.1, Nat.lt_of_lt_of_le this.2.2 h.size⟩
  · obtain ⟨b, e, ob, h1, h2, h3⟩ := hi.live id o ho
    exact ⟨b, e, ob, h1, (h.block b (hi.low _ _ h1).2.2).trans h2, h3⟩
  · obtain ⟨h1, h2⟩ := hi.base b o v hv
    refine ⟨h1, ?_⟩
    rw [← h2]
    simp only [World.cell?]
    rw [h.block b (Nat.lt_of_lt_of_le h1 hi.size)]

/-- The program's table of kinds lies where the program lays it. -/
def Laid (w : World) : Prop := 0 < w.heap.size ∧ ∀ o v, kindsT[o]? = some v → w.cell? ⟨0, o, none⟩ = some v

theorem Laid.kept {w w' : World} (h : Laid w) (k : Kept w w') : Laid w' :=
  ⟨Nat.lt_of_lt_of_le h.1 k.size, fun o v hv => by
    rw [← h.2 o v hv]
    simp only [World.cell?]
    rw [k.block 0 h.1]⟩

/-- The context of a proof: primitives, the functions and the definitions of its symbols, the rows that are handed. -/
noncomputable def cxW (p : FuncId → Option (Nat → List V → St → Option (V × St))) (g : Nat → List Int → Int) (d : Nat → Option DT) (o : Nat → Option (List C)) : Cx := { cx with prim := p, fns := g, defs := d, outer := o }

section
variable {p : FuncId → Option (Nat → List V → St → Option (V × St))} {g : Nat → List Int → Int} {d : Nat → Option DT} {o : Nat → Option (List C)}

theorem cxWOk : CxOk (cxW p g d o) prog := CxOk.to (cx := cx) rfl rfl rfl rfl cxOk

theorem laid_base {cx' : Cx} (hb : cx'.base = cx.base) {B : Nat} {β : Be} {st : St} {w : World} (hi : Inv cx' B β st w) : Laid w := by
  have key : ∀ o v, kindsT[o]? = some v → 0 < B ∧ w.cell? ⟨0, o, none⟩ = some v := fun o v hv => by
    refine hi.base 0 o v (hi.facts.base 0 o v ?_)
    rw [hb]
    show baseOf 0 o = some v
    exact hv
  refine ⟨?_, fun o v hv => (key o v hv).2⟩
  have h0 : ∃ v, kindsT[0]? = some v := ⟨_, rfl⟩
  obtain ⟨v, hv⟩ := h0
  exact Nat.lt_of_lt_of_le (key 0 v hv).1 hi.size

theorem base_of {w : World} (h : Laid w) : ∀ b o v, cx.base b o = some v → w.cell? ⟨b, o, none⟩ = some v := by
  intro b o v hv
  have hv' : baseOf b o = some v := hv
  unfold baseOf at hv'
  cases hb : Nat.beq b 0 with
  | false => rw [hb] at hv'; cases hv'
  | true =>
    rw [hb] at hv'
    have := Nat.eq_of_beq_eq_true hb; subst this
    exact h.2 o v hv'

theorem cell_lt {w : World} {b o : Nat} {v : Value} (h : w.cell? ⟨b, o, none⟩ = some v) : b < w.heap.size := by
  simp only [World.cell?] at h
  split at h
  · rename_i hb; exact (Array.getElem?_eq_some_iff.1 hb).1
  · cases h

/-- What is in memory, as symbols' ground. -/
def memOf (w : World) : Nat → Nat → Option Value := fun b o => w.cell? ⟨b, o, none⟩

/-- A call's first state: nothing of its own. -/
theorem inv0 {w : World} (ρ : Env) (hm : ρ.mem = memOf w) (hf : ρ.f = g) (hd : ∀ m x, d m = some x → ρ.v m = x.eval ρ) (h : Laid w)
    (ho : ∀ k l, o k = some l → ∀ j c, l[j]? = some c → ∃ v, w.cell? ⟨(ρ.out k).1, (ρ.out k).2 + j, none⟩ = some v ∧ CRel ⟨fun _ => none, ρ⟩ c v ∧ scal v = true) : Inv (cxW p g d o) w.heap.size ⟨fun _ => none, ρ⟩ ⟨.nil, 0⟩ w :=
  ⟨fun id p hp => (by cases hp), fun id o ho => (by simp [T.get] at ho), fun i j oi oj b e e' hi => (by simp [T.get] at hi), fun b o v hv => by
    have hv' : memOf w b o = some v := by rw [← hm]; exact hv
    exact ⟨cell_lt hv', hv'⟩, Nat.le_refl _, ⟨fun p hp => (by cases hp), hf, hd, fun b o v hv => by rw [hm]; exact base_of h b o v hv, fun k l hk j c hj => by rw [hm]; exact ho k l hk j c hj⟩⟩
end

theorem inv00 {w : World} (h : Laid w) : Inv cx w.heap.size ⟨fun _ => none, ⟨fun _ => 0, fun _ _ => 0, fun _ => (0, 0), memOf w⟩⟩ ⟨.nil, 0⟩ w :=
  ⟨fun id p hp => (by cases hp), fun id o ho => (by simp [T.get] at ho), fun i j oi oj b e e' hi => (by simp [T.get] at hi), fun b o v hv => ⟨cell_lt hv, hv⟩, Nat.le_refl _, ⟨fun p hp => (by cases hp), rfl, fun m x hx => (by cases hx), base_of h, fun k l hk => (by cases hk)⟩⟩

theorem Kept.ofNil {cx : Cx} {B : Nat} {β β' : Be} {n : Nat} {st' : St} {w w' : World} (h : Good cx B 0 β ⟨.nil, n⟩ w β' st' w') : Kept w w' := Kept.of (fun id o _ ho => by simp [T.get] at ho) h
end Go.Proofs.Tryz
