/- The play seat's context of the abstract machine: what the kernel checks of it. The play seat's context of the abstract machine stands to the seat's program as it must. On the play seat's program: what is kept over a call, what must lie in memory; the state that a call begins with. -/
import Derived.Test.YthlmjjdlmidnlaaGreatDoorArP
import Derived.Lib.MakeNoZero
import Derived.Lib.Bytealg
import Derived.Laws.Externs
import Derived.Test.YthlmjjdlmidnlaaGreatDoorAmZb
namespace Go.Proofs.Tryz
open Go Go.Am

theorem namesOk : (prog.funcs.toList.all fun F => !(F.name == "runtime.NumGoroutine")) = true := by kernel_rfl
theorem sizeOk : Nat.ble prog.funcs.size 600 = true := by kernel_rfl
noncomputable def planFn (f : Nat) : Bool := match prog.funcs[f]? with
  | some F => (match F.body with | some c => plansOk cx f c | none => true)
  | none => true
theorem plansAll : (nats 600).all planFn = true := by kernel_rfl

noncomputable def eqOk (t : TypeId) : Bool := !(prog.stoodInHeld t) && !(prog.eqGuardType prog.depth t) && (match prog.underlying t with | some (.struct fs) => fs.toList.all fun f => !(f.name == "_") | some (.array _ _) => true | _ => false)
theorem eqsAll : eqTs.all eqOk = true := by kernel_rfl
theorem h167 : prog.funcs[167]? = some f167 := by kernel_rfl
theorem n167 : (f167.name == "runtime.NumGoroutine") = false := by kernel_rfl
theorem b167 : f167.body.isNone = true := by kernel_rfl
theorem x167 : Extern.findNext f167 = none := by kernel_rfl
theorem h191 : prog.funcs[191]? = some f191 := by kernel_rfl
theorem n191 : (f191.name == "runtime.NumGoroutine") = false := by kernel_rfl
theorem b191 : f191.body.isNone = true := by kernel_rfl
theorem x191 : Extern.findNext f191 = none := by kernel_rfl
theorem h193 : prog.funcs[193]? = some f193 := by kernel_rfl
theorem n193 : (f193.name == "runtime.NumGoroutine") = false := by kernel_rfl
theorem b193 : f193.body.isNone = true := by kernel_rfl
theorem x193 : Extern.findNext f193 = none := by kernel_rfl
theorem h189 : prog.funcs[189]? = some f189 := by kernel_rfl
theorem n189 : (f189.name == "runtime.NumGoroutine") = false := by kernel_rfl
theorem b189 : f189.body.isNone = true := by kernel_rfl
theorem x189 : Extern.findNext f189 = none := by kernel_rfl
theorem e167 : Extern.find f167 = some Extern.AbiNoEscape.same := by kernel_rfl
theorem e193 : Extern.find f193 = some Extern.BytealgCount.count := by kernel_rfl
theorem e189 : Extern.find f189 = some Extern.BytealgIndexByte.indexByte := by kernel_rfl
theorem r191 : f191.resultTypes = #[143] := by kernel_rfl
theorem u143 : prog.underlying 143 = some (.slice 5) := by kernel_rfl
theorem size5 : (match cx.ty 5 with | some ty => Nat.beq ty.size 1 | none => false) = true := by kernel_rfl
theorem mixed : prog.follows .mixedOrders = true := by kernel_rfl
end Go.Proofs.Tryz

namespace Go.Proofs.Tryz
open Go Go.Am
set_option maxRecDepth 100000

theorem allNats {n : Nat} {p : Nat → Bool} (h : (nats n).all p = true) (f : Nat) (hf : f < n) : p f = true := List.all_eq_true.1 h f (mem_nats.2 hf)

theorem cxOk : CxOk cx prog where
  fn f F h := by
    simp only [cx, fnBad, memN, cond_false] at h
    refine ⟨h, ?_⟩
    have := List.all_eq_true.1 namesOk F (Array.mem_toList_iff.2 (Array.mem_of_getElem? h))
    simpa using this
  plans f F c h hb := by
    simp only [cx, fnBad, memN, cond_false] at h
    have hlt : f < 600 := by
      have h1 := (Array.getElem?_eq_some_iff.1 h).1
      have h2 := Nat.le_of_ble_eq_true sizeOk
      omega
    have := allNats plansAll f hlt
    unfold planFn at this
    rw [h] at this
    simp only [hb] at this
    exact this
  ty t := rfl
  eqs t ht := by
    have hm : t ∈ eqTs := memN_iff.1 ht
    have := List.all_eq_true.1 eqsAll t hm
    simp only [eqOk, Bool.and_eq_true, Bool.not_eq_true'] at this
    refine ⟨this.1.1, this.1.2, fun fs hfs f hf => ?_⟩
    have h3 := this.2
    rw [hfs] at h3
    have := List.all_eq_true.1 h3 f hf
    simpa using this


theorem e191 : Extern.find f191 = some (Extern.BytealgMakeNoZero.makeNoZero f191.params f191.resultTypes) := by kernel_rfl

theorem digits_int : ∀ (n t : Nat) (acc : Array Value), ScalL acc.toList → ScalL (Extern.BytealgMakeNoZero.digits n t acc).toList
  | 0, _, _, h => h
  | n + 1, t, acc, h => by
    rw [Extern.BytealgMakeNoZero.digits]
    refine digits_int n _ _ fun x hx => ?_
    simp only [Array.toList_push, List.mem_append, List.mem_singleton] at hx
    rcases hx with hx | rfl
    · exact h x hx
    · rfl

theorem run_make (ps : Array TypeId) (n : Nat) (hn : n ≤ 1000000) (w : World) :
    ∃ cs : Array Value, (Extern.BytealgMakeNoZero.makeNoZero ps #[143] #[.int .i64 n]).run prog w = .ok (.slice (some ⟨w.heap.size, 0, none⟩) n cs.size) (w.drew.drew.alloc (.cells cs 5)) ∧ n ≤ cs.size ∧ ScalL cs.toList := by
  have hdef : Extern.BytealgMakeNoZero.makeNoZero ps #[143] #[.int .i64 n] =
      (do
        let .slice elem ← underlying 143 | stuck "bytealg.MakeNoZero: slice type expected"
        if (n : Int) < 0 || (n : Int) > 2 ^ 48 then runtimePanic (.error "makeslice: len out of range")
        let cap ← choose (.appendCap (n : Int).toNat 0 elem)
        askRoom cap
        let bytes ← choose (.extern "internal/bytealg.MakeNoZero.bytes" 0)
        let a ← newRow elem (Extern.BytealgMakeNoZero.digits cap bytes #[])
        pure (.slice (some a) (n : Int).toNat cap)) := rfl
  refine ⟨Extern.BytealgMakeNoZero.digits (grownCap w n 0 5) ((Question.extern "internal/bytealg.MakeNoZero.bytes" 0).cut (w.tape (w.drawn + 1) (.extern "internal/bytealg.MakeNoZero.bytes" 0))) #[], ?_, ?_, digits_int _ _ _ (fun x hx => by cases hx)⟩
  · rw [hdef]
    have h1 : ¬ (n : Int) < 0 := by omega
    have h2 : ¬ (281474976710656 : Int) < (n : Int) := by omega
    simp [run_underlying u143, h1, h2, Question.forced, newRow, Lib.size_digits, grownCap]
  · rw [Lib.size_digits]
    simpa using grownCap_ge w n 0 5

theorem repU_rel {β : Be} : ∀ (n : Nat) (l : List Value), l.length = n → ScalL l → All2 (CRel β) (repU n) l
  | 0, [], _, _ => trivial
  | n + 1, x :: l, h, hs => ⟨hs x (by simp), repU_rel n l (by simpa using h) fun y hy => hs y (by simp [hy])⟩
  | 0, _ :: _, h, _ => by simp at h
  | _ + 1, [], h, _ => by simp at h

theorem primsOkG {cx' : Cx} (hty : cx'.ty = cx.ty) (hprim : cx'.prim = cx.prim) (B : Nat) : PrimsOk cx' prog B := by
  intro f p hp fl β st w args args' v st' hi hfl ha hpv
  rw [hprim] at hp
  simp only [cx, primOf] at hp
  cases h1 : Nat.beq f 167 with
  | true =>
    rw [h1] at hp
    simp only [cond_true, Option.some.injEq] at hp; subst hp
    have := Nat.eq_of_beq_eq_true h1; subst this
    unfold primSame at hpv
    split at hpv
    case h_2 => cases hpv
    rename_i x
    simp only [Option.some.injEq, Prod.mk.injEq] at hpv
    obtain ⟨rfl, rfl⟩ := hpv
    obtain ⟨x', rfl, hx1⟩ : ∃ x', args' = #[x'] ∧ VRel β x x' := by
      obtain ⟨l⟩ := args'
      match l, ha with
      | [x'], hr => exact ⟨x', rfl, hr.1⟩
    refine .inl ⟨x', w, ?_, β, hx1, Good.refl hi⟩
    rw [run_callFunc_extern h167 n167 b167 x167 e167]
    rfl
  | false =>
    rw [h1] at hp
    cases h2 : Nat.beq f 191 with
    | false =>
      rw [h2] at hp
      simp only [cond_false] at hp
      cases h3 : Nat.beq f 193 with
      | true =>
        rw [h3] at hp
        simp only [cond_true, Option.some.injEq] at hp; subst hp
        have := Nat.eq_of_beq_eq_true h3; subst this
        unfold primCnt at hpv
        split at hpv
        case h_2 => cases hpv
        rename_i s c
        simp only [Option.some.injEq, Prod.mk.injEq] at hpv
        obtain ⟨rfl, rfl⟩ := hpv
        obtain rfl : args' = #[.string s, .int .u8 c] := by
          obtain ⟨l⟩ := args'
          match l, ha with
          | [x', y'], hr => have e : x' = _ := hr.1; have e2 : y' = _ := hr.2.1; subst e e2; rfl
        refine .inl ⟨_, w, ?_, β, rfl, Good.refl hi⟩
        rw [run_callFunc_extern h193 n193 b193 x193 e193, Lib.run_countString]
        rfl
      | false =>
        rw [h3] at hp
        simp only [cond_false] at hp
        cases h4 : Nat.beq f 189 with
        | false => rw [h4] at hp; simp at hp
        | true =>
        rw [h4] at hp
        simp only [cond_true, Option.some.injEq] at hp; subst hp
        have := Nat.eq_of_beq_eq_true h4; subst this
        unfold primIdx at hpv
        split at hpv
        case h_2 => cases hpv
        rename_i s c
        simp only [Option.some.injEq, Prod.mk.injEq] at hpv
        obtain ⟨rfl, rfl⟩ := hpv
        obtain rfl : args' = #[.string s, .int .u8 c] := by
          obtain ⟨l⟩ := args'
          match l, ha with
          | [x', y'], hr => have e : x' = _ := hr.1; have e2 : y' = _ := hr.2.1; subst e e2; rfl
        refine .inl ⟨_, w, ?_, β, rfl, Good.refl hi⟩
        rw [run_callFunc_extern h189 n189 b189 x189 e189, Lib.run_indexByteString]
        rfl
    | true =>
      rw [h2] at hp
      simp only [cond_true, cond_false, Option.some.injEq] at hp; subst hp
      have := Nat.eq_of_beq_eq_true h2; subst this
      unfold primMake at hpv
      split at hpv
      case h_2 => cases hpv
      rename_i n
      cases hn : Nat.ble n 1000000 with
      | false => rw [hn] at hpv; simp at hpv
      | true =>
      rw [hn] at hpv
      simp only [cond_true, Option.some.injEq, Prod.mk.injEq] at hpv
      obtain ⟨rfl, rfl⟩ := hpv
      have hn' := Nat.le_of_ble_eq_true hn
      obtain rfl : args' = #[.int .i64 n] := by
        obtain ⟨l⟩ := args'
        match l, ha with
        | [x'], hr => have e : x' = _ := hr.1; subst e; rfl
      obtain ⟨cs, q1, q2, q3⟩ := run_make f191.params n hn' w
      obtain ⟨ty5, ht5, hs5⟩ : ∃ ty, cx.ty 5 = some ty ∧ ty.size = 1 := by
        have := size5
        split at this
        · rename_i ty ht; exact ⟨ty, ht, Nat.eq_of_beq_eq_true this⟩
        · cases this
      refine .inl ⟨.slice (some ⟨w.heap.size, 0, none⟩) n cs.size, w.drew.drew.alloc (.cells cs 5), ?_, upd β st.next (w.heap.size, cs.size - n), ⟨w.heap.size, cs.size - n, upd_self _ _ _, ?_⟩, ?_⟩
      · rw [run_callFunc_extern h191 n191 b191 x191 e191, r191, q1]; rfl
      · simp only [cond_true]; congr 1; omega
      · refine Good.alloc hi hfl (ob := .cells cs 5) ⟨cs, cs.toList.take n, cs.toList.drop n, rfl, (List.take_append_drop n _).symm, repU_rel n _ (by simp; omega) (fun x hx => q3 x (List.mem_of_mem_take hx)), q3, fun h => (by cases h), fun _ => ⟨ty5, by rw [hty]; exact ht5, by simp [hs5]⟩⟩ rfl rfl rfl rfl

theorem primsOk (B : Nat) : PrimsOk cx prog B := primsOkG rfl rfl B

/-- A call on the seat's program: what the evaluator says. -/
theorem callOk {B fl n : Nat} {β : Be} {st : St} {w : World} {f : FuncId} {args : List V} {args' : Array Value} {K : V → St → Bool} (hk : callF cx (Am.run cx n) fl f args st K = true) (hfl : fl ≤ st.next) (h : Inv cx B β st w) (ha : All2 (VRel β) args args'.toList) :
    CallRet prog f args' w fun v' w' => ∃ v st' β', K v st' = true ∧ VRel β' v v' ∧ Good cx B fl β st w β' st' w' := call_ok mixed cxOk (primsOk B) hk hfl h ha
end Go.Proofs.Tryz

namespace Go.Proofs.Tryz
open Go Go.Am
set_option maxRecDepth 100000

/-- What was there is there still. -/
structure Kept (w w' : World) : Prop where
  os : w'.os = w.os
  tape : w'.tape = w.tape
  output : w'.output = w.output
  size : w.heap.size ≤ w'.heap.size
  block : ∀ k, k < w.heap.size → w'.heap[k]? = w.heap[k]?

theorem Kept.of {cx : Cx} {B fl : Nat} {β β' : Be} {st st' : St} {w w' : World} (hn : ∀ id o, fl ≤ id → st.heap.get id ≠ some o) (h : Good cx B fl β st w β' st' w') : Kept w w' :=
  ⟨h.os, h.tape, h.output, h.size, fun k hk => h.frame k hk fun id o _ hid ho _ => hn id o hid ho⟩

theorem Kept.trans {a b c : World} (h : Kept a b) (k : Kept b c) : Kept a c :=
  ⟨k.os.trans h.os, k.tape.trans h.tape, k.output.trans h.output, Nat.le_trans h.size k.size, fun i hi => (k.block i (Nat.lt_of_lt_of_le hi h.size)).trans (h.block i hi)⟩

/-- What keeps all keeps a state. -/
theorem Kept.good {cx : Cx} {B fl : Nat} {β : Be} {st : St} {w w' : World} (hi : Inv cx B β st w) (h : Kept w w') : Good cx B fl β st w β st w' := by
  refine ⟨Ext.refl _, fun _ _ => rfl, ⟨fun id p hp => ?_, fun id o ho => ?_, hi.inj, fun b o v hv => ?_, Nat.le_trans hi.size h.size, hi.facts, still_of hi.still rfl fun b hb hn => ⟨h.block b hb, hn⟩⟩, fun _ _ => rfl, Nat.le_refl _, h.os, h.tape, h.output, h.size, fun k hk _ => h.block k hk, fun id o b e h1 h2 h3 => .inr ⟨id, o, e, h1, h2, h3⟩, fun _ _ _ h => .inl h⟩
  · have := hi.low id p hp
    exact ⟨this.1, this.2.1, Nat.lt_of_lt_of_le this.2.2 h.size⟩
  · obtain ⟨b, e, ob, h1, h2, h3⟩ := hi.live id o ho
    exact ⟨b, e, ob, h1, (h.block b (hi.low _ _ h1).2.2).trans h2, h3⟩
  · obtain ⟨h1, h2⟩ := hi.base b o v hv
    refine ⟨h1, ?_⟩
    rw [← h2]
    simp only [World.cell?]
    rw [h.block b (Nat.lt_of_lt_of_le h1 hi.size)]

/-- What lies in memory where the program lays it. -/
def Laid (w : World) : Prop := ∀ b o v, baseOf b o = some v → w.cell? ⟨b, o, none⟩ = some v

theorem cell_lt {w : World} {b o : Nat} {v : Value} (h : w.cell? ⟨b, o, none⟩ = some v) : b < w.heap.size := by
  simp only [World.cell?] at h
  split at h
  · rename_i hb; exact (Array.getElem?_eq_some_iff.1 hb).1
  · cases h

theorem Laid.kept {w w' : World} (h : Laid w) (k : Kept w w') : Laid w' := fun b o v hv => by
  have h1 := h b o v hv
  rw [← h1]
  simp only [World.cell?]
  rw [k.block b (cell_lt h1)]

/-- The context of a proof: primitives, the functions and the definitions of its symbols, the rows that are handed. -/
noncomputable def cxW (p : FuncId → Option (Nat → List V → St → Option (V × St))) (g : Nat → List Int → Int) (d : Nat → Option DT) (o : Nat → Option (List C)) : Cx := { cx with prim := p, fns := g, defs := d, outer := o }

section
variable {p : FuncId → Option (Nat → List V → St → Option (V × St))} {g : Nat → List Int → Int} {d : Nat → Option DT} {o : Nat → Option (List C)}

theorem cxWOk : CxOk (cxW p g d o) prog := CxOk.to (cx := cx) rfl rfl rfl rfl cxOk

theorem laid_base {cx' : Cx} (hb : cx'.base = cx.base) {B : Nat} {β : Be} {st : St} {w : World} (hi : Inv cx' B β st w) : Laid w := fun b o v hv =>
  (hi.base b o v (hi.facts.base b o v (by rw [hb]; exact hv))).2

theorem base_of {w : World} (h : Laid w) : ∀ b o v, cx.base b o = some v → w.cell? ⟨b, o, none⟩ = some v := fun b o v hv => h b o v hv

/-- What is in memory, as symbols' ground. -/
def memOf (w : World) : Nat → Nat → Option Value := fun b o => w.cell? ⟨b, o, none⟩

/-- A call's first state: nothing of its own. -/
theorem inv0 {w : World} (ρ : Env) (hm : ρ.mem = memOf w) (hf : ρ.f = g) (hd : ∀ m x, d m = some x → ρ.v m = x.eval ρ) (h : Laid w)
    (ho : ∀ k l, o k = some l → ∀ j c, l[j]? = some c → ∃ v, w.cell? ⟨(ρ.out k).1, (ρ.out k).2 + j, none⟩ = some v ∧ CRel { m := fun _ => none, env := ρ } c v ∧ scal v = true) : Inv (cxW p g d o) w.heap.size { m := fun _ => none, env := ρ } ⟨.nil, 0⟩ w :=
  ⟨fun id p hp => (by cases hp), fun id o ho => (by simp [T.get] at ho), fun i j oi oj b e e' hi => (by simp [T.get] at hi), fun b o v hv => by
    have hv' : memOf w b o = some v := by rw [← hm]; exact hv
    exact ⟨cell_lt hv', hv'⟩, Nat.le_refl _, ⟨fun p hp => (by cases hp), hf, hd, fun b o v hv => by rw [hm]; exact base_of h b o v hv, fun k l hk j c hj => by rw [hm]; exact ho k l hk j c hj⟩, fun _ _ _ h => nomatch h⟩
end

theorem inv00 {w : World} (h : Laid w) : Inv cx w.heap.size { m := fun _ => none, env := ⟨fun _ => 0, fun _ _ => 0, fun _ => (0, 0), memOf w⟩ } ⟨.nil, 0⟩ w :=
  ⟨fun id p hp => (by cases hp), fun id o ho => (by simp [T.get] at ho), fun i j oi oj b e e' hi => (by simp [T.get] at hi), fun b o v hv => ⟨cell_lt hv, hv⟩, Nat.le_refl _, ⟨fun p hp => (by cases hp), rfl, fun m x hx => (by cases hx), base_of h, fun k l hk => (by cases hk)⟩, fun _ _ _ h => nomatch h⟩

theorem Kept.ofNil {cx : Cx} {B : Nat} {β β' : Be} {n : Nat} {st' : St} {w w' : World} (h : Good cx B 0 β ⟨.nil, n⟩ w β' st' w') : Kept w w' := Kept.of (fun id o _ ho => by simp [T.get] at ho) h
end Go.Proofs.Tryz
