/- The season seat's context of the abstract machine stands to the seat's program as it must. -/
import Derived.Test.YtbfonnoebbjenaaGreatDoorAmZa
import Derived.Lib.MakeNoZero
import Derived.Laws.Externs
namespace Go.Proofs.Tryz
open Go Go.Am
set_option maxRecDepth 100000

theorem allNats {n : Nat} {p : Nat → Bool} (h : (nats n).all p = true) (f : Nat) (hf : f < n) : p f = true := List.all_eq_true.1 h f (mem_nats.2 hf)

theorem cxOk : CxOk cx prog where
  fn f F h := by
    simp only [cx, fnBad, memN, cond_false] at h
    refine ⟨h, ?_⟩
    have := List.all_eq_true.1 namesOk F (Array.mem_toList_iff.2 (Array.mem_of_getElem? h))
    simpa using this
  plans f F c h hb := by
    simp only [cx, fnBad, memN, cond_false] at h
    have hlt : f < 600 := by
      have h1 := (Array.getElem?_eq_some_iff.1 h).1
      have h2 := Nat.le_of_ble_eq_true sizeOk
      omega
    have := allNats plansAll f hlt
    unfold planFn at this
    rw [h] at this
    simp only [hb] at this
    exact this
  ty t := rfl
  eqs t ht := by
    have hm : t ∈ eqTs := memN_iff.1 ht
    have := List.all_eq_true.1 eqsAll t hm
    simp only [eqOk, Bool.and_eq_true, Bool.not_eq_true'] at this
    refine ⟨this.1.1, this.1.2, fun fs hfs f hf => ?_⟩
    have h3 := this.2
    rw [hfs] at h3
    have := List.all_eq_true.1 h3 f hf
    simpa using this


theorem e250 : Extern.find f250 = some (Extern.BytealgMakeNoZero.makeNoZero f250.params f250.resultTypes) := by kernel_rfl

theorem digits_int : ∀ (n t : Nat) (acc : Array Value), ScalL acc.toList → ScalL (Extern.BytealgMakeNoZero.digits n t acc).toList
  | 0, _, _, h => h
  | n + 1, t, acc, h => by
    rw [Extern.BytealgMakeNoZero.digits]
    refine digits_int n _ _ fun x hx => ?_
    simp only [Array.toList_push, List.mem_append, List.mem_singleton] at hx
    rcases hx with hx | rfl
    · exact h x hx
    · rfl

theorem run_make (ps : Array TypeId) (n : Nat) (hn : n ≤ 1000000) (w : World) :
    ∃ cs : Array Value, (Extern.BytealgMakeNoZero.makeNoZero ps #[241] #[.int .i64 n]).run prog w = .ok (.slice (some ⟨w.heap.size, 0, none⟩) n cs.size) (w.drew.drew.alloc (.cells cs 5)) ∧ n ≤ cs.size ∧ ScalL cs.toList := by
  have hdef : Extern.BytealgMakeNoZero.makeNoZero ps #[241] #[.int .i64 n] =
      (do
        let .slice elem ← underlying 241 | stuck "bytealg.MakeNoZero: slice type expected"
        if (n : Int) < 0 || (n : Int) > 2 ^ 48 then runtimePanic (.error "makeslice: len out of range")
        let cap ← choose (.appendCap (n : Int).toNat 0 elem)
        askRoom cap
        let bytes ← choose (.extern "internal/bytealg.MakeNoZero.bytes" 0)
        let a ← newRow elem (Extern.BytealgMakeNoZero.digits cap bytes #[])
        pure (.slice (some a) (n : Int).toNat cap)) := rfl
  refine ⟨Extern.BytealgMakeNoZero.digits (grownCap w n 0 5) ((Question.extern "internal/bytealg.MakeNoZero.bytes" 0).cut (w.tape (w.drawn + 1) (.extern "internal/bytealg.MakeNoZero.bytes" 0))) #[], ?_, ?_, digits_int _ _ _ (fun x hx => by cases hx)⟩
  · rw [hdef]
    have h1 : ¬ (n : Int) < 0 := by omega
    have h2 : ¬ (281474976710656 : Int) < (n : Int) := by omega
    simp [run_underlying u241, h1, h2, Question.forced, newRow, Lib.size_digits, grownCap]
  · rw [Lib.size_digits]
    simpa using grownCap_ge w n 0 5

theorem repU_rel {β : Be} : ∀ (n : Nat) (l : List Value), l.length = n → ScalL l → All2 (CRel β) (repU n) l
  | 0, [], _, _ => trivial
  | n + 1, x :: l, h, hs => ⟨hs x (by simp), repU_rel n l (by simpa using h) fun y hy => hs y (by simp [hy])⟩
  | 0, _ :: _, h, _ => by simp at h
  | _ + 1, [], h, _ => by simp at h

theorem primsOkG {cx' : Cx} (hty : cx'.ty = cx.ty) (hprim : cx'.prim = cx.prim) (B : Nat) : PrimsOk cx' prog B := by
  intro f p hp fl β st w args args' v st' hi hfl ha hpv
  rw [hprim] at hp
  simp only [cx, primOf] at hp
  cases h1 : Nat.beq f 224 with
  | true =>
    rw [h1] at hp
    simp only [cond_true, Option.some.injEq] at hp; subst hp
    have := Nat.eq_of_beq_eq_true h1; subst this
    unfold primSame at hpv
    split at hpv
    case h_2 => cases hpv
    rename_i x
    simp only [Option.some.injEq, Prod.mk.injEq] at hpv
    obtain ⟨rfl, rfl⟩ := hpv
    obtain ⟨x', rfl, hx1⟩ : ∃ x', args' = #[x'] ∧ VRel β x x' := by
      obtain ⟨l⟩ := args'
      match l, ha with
      | [x'], hr => exact ⟨x', rfl, hr.1⟩
    refine .inl ⟨x', w, ?_, β, hx1, Good.refl hi⟩
    rw [run_callFunc_extern h224 n224 b224 x224 e224]
    rfl
  | false =>
    rw [h1] at hp
    cases h2 : Nat.beq f 250 with
    | false => rw [h2] at hp; simp at hp
    | true =>
      rw [h2] at hp
      simp only [cond_true, cond_false, Option.some.injEq] at hp; subst hp
      have := Nat.eq_of_beq_eq_true h2; subst this
      unfold primMake at hpv
      split at hpv
      case h_2 => cases hpv
      rename_i n
      cases hn : Nat.ble n 1000000 with
      | false => rw [hn] at hpv; simp at hpv
      | true =>
      rw [hn] at hpv
      simp only [cond_true, Option.some.injEq, Prod.mk.injEq] at hpv
      obtain ⟨rfl, rfl⟩ := hpv
      have hn' := Nat.le_of_ble_eq_true hn
      obtain rfl : args' = #[.int .i64 n] := by
        obtain ⟨l⟩ := args'
        match l, ha with
        | [x'], hr => have e : x' = _ := hr.1; subst e; rfl
      obtain ⟨cs, q1, q2, q3⟩ := run_make f250.params n hn' w
      obtain ⟨ty5, ht5, hs5⟩ : ∃ ty, cx.ty 5 = some ty ∧ ty.size = 1 := by
        have := size5
        split at this
        · rename_i ty ht; exact ⟨ty, ht, Nat.eq_of_beq_eq_true this⟩
        · cases this
      refine .inl ⟨.slice (some ⟨w.heap.size, 0, none⟩) n cs.size, w.drew.drew.alloc (.cells cs 5), ?_, upd β st.next (w.heap.size, cs.size - n), ⟨w.heap.size, cs.size - n, upd_self _ _ _, ?_⟩, ?_⟩
      · rw [run_callFunc_extern h250 n250 b250 x250 e250, r250, q1]; rfl
      · simp only [cond_true]; congr 1; omega
      · refine Good.alloc hi hfl (ob := .cells cs 5) ⟨cs, cs.toList.take n, cs.toList.drop n, rfl, (List.take_append_drop n _).symm, repU_rel n _ (by simp; omega) (fun x hx => q3 x (List.mem_of_mem_take hx)), q3, fun h => (by cases h), fun _ => ⟨ty5, by rw [hty]; exact ht5, by simp [hs5]⟩⟩ rfl rfl rfl rfl

theorem primsOk (B : Nat) : PrimsOk cx prog B := primsOkG rfl rfl B

/-- A call on the seat's program: what the evaluator says. -/
theorem callOk {B fl n : Nat} {β : Be} {st : St} {w : World} {f : FuncId} {args : List V} {args' : Array Value} {K : V → St → Bool} (hk : callF cx (Am.run cx n) fl f args st K = true) (hfl : fl ≤ st.next) (h : Inv cx B β st w) (ha : All2 (VRel β) args args'.toList) :
    CallRet prog f args' w fun v' w' => ∃ v st' β', K v st' = true ∧ VRel β' v v' ∧ Good cx B fl β st w β' st' w' := call_ok mixed cxOk (primsOk B) hk hfl h ha
end Go.Proofs.Tryz
