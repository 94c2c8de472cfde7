/- On the seat of the open Play statements: the index of a byte as a primitive; a rune from 128 on is none of the letters of pitches. On the seat of the open Play statements: a rune from 128 on is none of the letters of pitches. -/
import Derived.Test.YthlmjjdlmidnlaaGreatDoorArPr
import Derived.Laws.Runes
namespace Go.Proofs.Tryz
open Go Go.Am
set_option maxRecDepth 100000

/-- The index of a byte (the first) in a string (the others). -/
def idxI : List Int → Int
  | b :: s => Lib.indexByte (s.map fun i => i.toNat.toUInt8) b.toNat.toUInt8
  | [] => 0
def bytesE (s : List UInt8) : List E := s.map fun b => L (Int.ofNat b.toNat)
def pIdx (_ : Nat) (args : List V) (st : St) : Option (V × St) :=
  match args with
  | [.a (.c (.sc (.string s))), .a (.c (.sc (.int .u8 c)))] => some (.a (.c (.sc (.int .i64 (Lib.indexByte s.data.toList c.toNat.toUInt8)))), st)
  | [.a (.c (.sc (.string s))), .a (.c (.sy .u8 e))] => some (sE (appE 62 (e :: bytesE s.data.toList)), st)
  | _ => none

section
variable {q : FuncId → Option PT} {g : Nat → List Int → Int} {d : Nat → Option DT} {o : Nat → Option (List C)} {B : Nat}

theorem bytesE_val (ρ : Env) : ∀ s : List UInt8, ((bytesE s).map (E.val ρ)).map (fun i : Int => i.toNat.toUInt8) = s
  | [] => rfl
  | b :: s => by
    show ((Int.ofNat b.toNat).toNat.toUInt8) :: (((bytesE s).map (E.val ρ)).map fun i : Int => i.toNat.toUInt8) = _
    rw [bytesE_val ρ s]
    congr 1
    show b.toNat.toUInt8 = b
    simp

theorem pokIdx (hg : ∀ l, g 62 l = idxI l) : POk (cxW q g d o) B 189 pIdx := by
  intro fl β st w args args' v st' hi hfl ha hpv
  have hfn : β.env.f = g := hi.facts.fns
  unfold pIdx at hpv
  obtain ⟨al⟩ := args'
  split at hpv
  · rename_i s c
    simp only [Option.some.injEq, Prod.mk.injEq] at hpv
    obtain ⟨rfl, rfl⟩ := hpv
    match al, ha with
    | [x', y'], hr =>
      have e : x' = _ := hr.1
      have e2 : y' = _ := hr.2.1
      subst e e2
      refine .inl ⟨_, w, ?_, β, rfl, Good.refl hi⟩
      rw [run_callFunc_extern h189 n189 b189 x189 e189, Lib.run_indexByteString]
      rfl
  · rename_i s e0
    simp only [Option.some.injEq, Prod.mk.injEq] at hpv
    obtain ⟨rfl, rfl⟩ := hpv
    match al, ha with
    | [x', y'], hr =>
      have e : x' = _ := hr.1
      have e2 : y' = .int .u8 (e0.val β.env) := hr.2.1
      subst e e2
      refine .inl ⟨vi (Lib.indexByte s.data.toList (e0.val β.env).toNat.toUInt8), w, ?_, β, ?_, Good.refl hi⟩
      · rw [run_callFunc_extern h189 n189 b189 x189 e189, Lib.run_indexByteString]
        rfl
      · refine ansI_rel ?_
        rw [hfn, hg, List.map_cons]
        simp only [idxI, bytesE_val]
  · cases hpv
end

/-! ### a rune from 128 on -/
def rX : E := vE 0
def fH : Nat → List Int → Int := fun f l => if f = 62 then idxI l else 0
noncomputable def tH : FuncId → Option PT := addP 189 pIdx cx.prim
noncomputable def cxH : Cx := cxW tH fH noDefs noRows
theorem tokH (B : Nat) : TOk cxH B tH := (tokBase tH fH noDefs noRows).add (pokIdx fun _ => rfl)
def pitchS : ByteArray := ⟨#[66, 67, 83, 70, 88, 72]⟩
def argsH : List V := [.a (.c (.sc (.string pitchS))), .a (.c (.sy .i32 rX))]
def rB (j : Nat) : E := .enc rX j
noncomputable def runH (l0 : Asg) : Bool := runOne 100 20 cxH 69 l0 argsH (fun l => isBT cxH l (dLf 0))
def factH (a b : Int) (n : Nat) (s : List UInt8) : Asg := [(.le (L a) rX, true), (.le rX (L b), true), (.eq rX (L 65533), false), (.le (L 128) (rB n), true), (.le (L 0) (appE 62 (rB n :: bytesE s)), false)]
theorem runH2 : runH (factH 128 2047 1 [83, 70, 88, 72]) = true := by kernel_rfl
theorem runH3 : runH (factH 2048 65535 2 [70, 88, 72]) = true := by kernel_rfl
theorem runH4 : runH (factH 65536 1114111 3 [88, 72]) = true := by kernel_rfl
theorem runHs : runH [(.le (L 55296) rX, true), (.le rX (L 57343), true), (.eq rX (L 65533), false)] = true := by kernel_rfl
theorem runHo : runH [(.le (L 1114112) rX, true), (.eq rX (L 65533), false)] = true := by kernel_rfl
theorem runHf : runH [(.eq rX (L 65533), true)] = true := by kernel_rfl
end Go.Proofs.Tryz

namespace Go.Proofs.Tryz
open Go Go.Am
set_option maxRecDepth 100000

section
variable {x : Int} {w : World}
theorem enc_size {n : Nat} (hv : Utf8.valid x = true) (h : (128 ≤ x ∧ x ≤ 2047 ∧ n = 2) ∨ (2048 ≤ x ∧ x ≤ 65535 ∧ n = 3) ∨ (65536 ≤ x ∧ x ≤ 1114111 ∧ n = 4)) : (Utf8.encode x).size = n := by
  unfold Utf8.encode
  simp only [hv, if_true]
  rw [if_neg (by omega)]
  rcases h with ⟨h1, h2, rfl⟩ | ⟨h1, h2, rfl⟩ | ⟨h1, h2, rfl⟩
  · rw [if_pos (by omega)]; rfl
  · rw [if_neg (by omega), if_pos (by omega)]; rfl
  · rw [if_neg (by omega), if_neg (by omega)]; rfl

theorem enc_last {n : Nat} (hv : Utf8.valid x = true) (h0 : 128 ≤ x) (hs : (Utf8.encode x).size = n + 1) : 128 ≤ ((Utf8.encode x).data.toList.getD n 0).toNat := by
  obtain ⟨_, _, h⟩ := encode_facts x hv h0
  have hlt : (Utf8.encode x).size - 1 < (Utf8.encode x).size := by omega
  have := h hlt
  have e : (Utf8.encode x).data.toList.getD n 0 = (Utf8.encode x)[(Utf8.encode x).size - 1]'hlt := by
    have hn : n < (Utf8.encode x).data.toList.length := by
      have : (Utf8.encode x).data.toList.length = (Utf8.encode x).size := rfl
      omega
    rw [List.getD_eq_getElem?_getD, List.getElem?_eq_getElem hn]
    show (Utf8.encode x).data.toList[n] = (Utf8.encode x).data[(Utf8.encode x).size - 1]
    rw [Array.getElem_toList]
    congr 1; omega
  rw [e]; exact this

theorem idx_none : ∀ (s : List UInt8) (c : UInt8), (∀ b ∈ s, b ≠ c) → Lib.indexByte s c = -1
  | [], _, _ => rfl
  | b :: s, c, h => by
    have e : (b == c) = false := by simpa using h b (by simp)
    have ih := idx_none s c fun x hx => h x (by simp [hx])
    simp only [Lib.indexByte, e, ih]; rfl

theorem hi_of {l0 : Asg} (hk : runH l0 = true) (h : Laid w) (hl : AsgOk (envW w [x] fH) l0) : CallRet prog 69 #[.string pitchS, .int .i32 x] w fun v' w' => v' = .bool false ∧ Kept w w' :=
  (run_B (vs := [x]) tokH hk h hl (args' := #[.string pitchS, .int .i32 x]) ⟨rfl, rfl, trivial⟩).mono fun _ _ ⟨h1, h2⟩ => ⟨h1, h2⟩

theorem hi_fact {a b : Int} {n : Nat} {s : List UInt8} (hv : Utf8.valid x = true) (h0 : 128 ≤ x) (ha : a ≤ x) (hb : x ≤ b) (h3 : x ≠ 65533) (hs : (Utf8.encode x).size = n + 1) (hs2 : ∀ c ∈ s, c.toNat < 128) : AsgOk (envW w [x] fH) (factH a b n s) := by
  have hlast := enc_last hv h0 hs
  refine asC (h_le ha) (asC (h_le hb) (asC (h_ne h3) (asC (h_le ?_) (asC (h_nle ?_) asN))))
  · show (128 : Int) ≤ (((Utf8.encode x).data.toList.getD n 0).toNat : Int)
    omega
  · rw [appE_val]
    show ¬ (0 : Int) ≤ idxI ((rB n :: bytesE s).map (E.val (envW w [x] fH)))
    rw [List.map_cons]
    simp only [idxI, bytesE_val]
    rw [idx_none]
    · omega
    · intro c hc e
      have h1 := hs2 c hc
      have h2 : c.toNat = ((Utf8.encode x).data.toList.getD n 0).toNat := by
        rw [e]
        show ((((Utf8.encode x).data.toList.getD n 0).toNat : Int).toNat.toUInt8).toNat = _
        simp
      omega

theorem hi_ret (h : Laid w) (h0 : 128 ≤ x) : CallRet prog 69 #[.string pitchS, .int .i32 x] w fun v' w' => v' = .bool false ∧ Kept w w' := by
  by_cases h3 : x = 65533
  · exact hi_of runHf h (asC (h_eq h3) asN)
  by_cases h4 : x ≤ 1114111
  case neg => exact hi_of runHo h (asC (h_le (by show (1114112 : Int) ≤ x; omega)) (asC (h_ne h3) asN))
  by_cases hs : 55296 ≤ x ∧ x ≤ 57343
  · exact hi_of runHs h (asC (h_le hs.1) (asC (h_le hs.2) (asC (h_ne h3) asN)))
  have hv : Utf8.valid x = true := by simp [Utf8.valid]; omega
  by_cases h5 : x ≤ 2047
  · exact hi_of runH2 h (hi_fact hv h0 h0 h5 h3 (enc_size hv (.inl ⟨h0, h5, rfl⟩)) (by decide))
  by_cases h6 : x ≤ 65535
  · exact hi_of runH3 h (hi_fact hv h0 (by omega) h6 h3 (enc_size hv (.inr (.inl ⟨by omega, h6, rfl⟩))) (by decide))
  · exact hi_of runH4 h (hi_fact hv h0 (by omega) h4 h3 (enc_size hv (.inr (.inr ⟨by omega, h4, rfl⟩))) (by decide))
end

/-- Is it a letter of pitches? -/
def pin (x : Int) : Int := if x = 66 ∨ x = 67 ∨ x = 83 ∨ x = 70 ∨ x = 88 ∨ x = 72 then 1 else 0
def rIdx : E := appE 62 (.wrap .u8 rX :: bytesE [66, 67, 83, 70, 88, 72])
def ascD : DT := .node (.le (L 0) rIdx) (dLf 1) (dLf 0)
theorem runAsc : runOne 100 20 cxH 69 [(.le (L 0) rX, true), (.le rX (L 127), true)] argsH (fun l => isBT cxH l ascD) = true := by kernel_rfl
theorem runNeg : runH [(.le (L 0) rX, false)] = true := by kernel_rfl

section
variable {x : Int} {w : World}
theorem idx_asc (h0 : 0 ≤ x) (h1 : x ≤ 127) : ascD.eval (envV [x] fH) = pin x := by
  have e : rIdx.val (envV [x] fH) = Lib.indexByte [66, 67, 83, 70, 88, 72] x.toNat.toUInt8 := by
    unfold rIdx
    rw [appE_val]
    show idxI ((E.wrap .u8 rX :: bytesE [66, 67, 83, 70, 88, 72]).map (E.val (envV [x] fH))) = _
    rw [List.map_cons]
    simp only [idxI, bytesE_val]
    have : (E.wrap .u8 rX).val (envV [x] fH) = x := by
      show IntKind.u8.wrap x = x
      simp [IntKind.wrap, IntKind.bits, IntKind.signed]; omega
    rw [this]
  unfold ascD
  rw [ev_le, e]
  have hb : ∀ c : Nat, c < 128 → ((c.toUInt8 == x.toNat.toUInt8) = decide (x = c)) := fun c hc => by
    by_cases h : x = c
    · subst h; simp
    · have : c.toUInt8 ≠ x.toNat.toUInt8 := fun e => by
        have := congrArg UInt8.toNat e
        simp at this
        omega
      rw [beq_eq_false_iff_ne.2 this, decide_eq_false h]
  have k1 := hb 66 (by omega)
  have k2 := hb 67 (by omega)
  have k3 := hb 83 (by omega)
  have k4 := hb 70 (by omega)
  have k5 := hb 88 (by omega)
  have k6 := hb 72 (by omega)
  simp only [Lib.indexByte]
  rw [show (66 : UInt8) = (66 : Nat).toUInt8 from rfl, show (67 : UInt8) = (67 : Nat).toUInt8 from rfl, show (83 : UInt8) = (83 : Nat).toUInt8 from rfl, show (70 : UInt8) = (70 : Nat).toUInt8 from rfl, show (88 : UInt8) = (88 : Nat).toUInt8 from rfl, show (72 : UInt8) = (72 : Nat).toUInt8 from rfl]
  simp only [k1, k2, k3, k4, k5, k6, ev_lf]
  show (if (0 : Int) ≤ _ then (1 : Int) else 0) = pin x
  unfold pin
  by_cases q1 : x = 66
  · subst q1; rfl
  by_cases q2 : x = 67
  · subst q2; rfl
  by_cases q3 : x = 83
  · subst q3; rfl
  by_cases q4 : x = 70
  · subst q4; rfl
  by_cases q5 : x = 88
  · subst q5; rfl
  by_cases q6 : x = 72
  · subst q6; rfl
  rw [if_neg (show ¬ (x = 66 ∨ x = 67 ∨ x = 83 ∨ x = 70 ∨ x = 88 ∨ x = 72) by omega)]
  rw [decide_eq_false (show ¬ x = ((66 : Nat) : Int) from q1), decide_eq_false (show ¬ x = ((67 : Nat) : Int) from q2), decide_eq_false (show ¬ x = ((83 : Nat) : Int) from q3), decide_eq_false (show ¬ x = ((70 : Nat) : Int) from q4), decide_eq_false (show ¬ x = ((88 : Nat) : Int) from q5), decide_eq_false (show ¬ x = ((72 : Nat) : Int) from q6)]
  rfl

theorem rune_ret (h : Laid w) : CallRet prog 69 #[.string pitchS, .int .i32 x] w fun v' w' => v' = .bool (decide (pin x ≠ 0)) ∧ Kept w w' := by
  by_cases h0 : 0 ≤ x
  · by_cases h1 : x ≤ 127
    · have := run_B (vs := [x]) tokH runAsc h (asC (h_le h0) (asC (h_le h1) asN)) (args' := #[.string pitchS, .int .i32 x]) ⟨rfl, rfl, trivial⟩
      rw [idx_asc h0 h1] at this
      refine this.mono fun v' w' ⟨e, hk⟩ => ⟨?_, hk⟩
      rw [e]; congr 1
      unfold pin; split <;> rfl
    · have e : pin x = 0 := by unfold pin; rw [if_neg (by omega)]
      rw [e]; exact hi_ret h (by omega)
  · have e : pin x = 0 := by unfold pin; rw [if_neg (by omega)]
    rw [e]; exact hi_of runNeg h (asC (h_nle h0) asN)
end

/-! ### as a primitive -/
def pRune (_ : Nat) (args : List V) (st : St) : Option (V × St) :=
  match args with
  | [.a (.c (.sc (.string s))), .a (.c (.hi .i32 lo))] => bif decide (s.data.toList = pitchS.data.toList) && Nat.ble 128 lo then some (.a (.c (.sc (.bool false))), st) else none
  | [.a (.c (.sc (.string s))), .a (.c (.sy .i32 e))] => bif decide (s.data.toList = pitchS.data.toList) then some (.a (.c (.sb (appE 61 [e]))), st) else none
  | _ => none

section
variable {q : FuncId → Option PT} {g : Nat → List Int → Int} {d : Nat → Option DT} {o : Nat → Option (List C)} {B : Nat}
theorem pokRune (hg : ∀ x, g 61 [x] = pin x) : POk (cxW q g d o) B 69 pRune := by
  intro fl β st w args args' v st' hi hfl ha hpv
  have hL : Laid w := laid_base (cx' := cxW q g d o) rfl hi
  have hfn : β.env.f = g := hi.facts.fns
  unfold pRune at hpv
  obtain ⟨al⟩ := args'
  split at hpv
  · rename_i s lo
    cases hc : (decide (s.data.toList = pitchS.data.toList) && Nat.ble 128 lo) with
    | false => rw [hc] at hpv; cases hpv
    | true =>
    rw [hc] at hpv
    simp only [cond_true, Option.some.injEq, Prod.mk.injEq] at hpv
    obtain ⟨rfl, rfl⟩ := hpv
    simp only [Bool.and_eq_true, decide_eq_true_eq] at hc
    have es : s = pitchS := by
      obtain ⟨⟨l⟩⟩ := s
      have := hc.1
      simp only at this
      subst this; rfl
    have hlo := Nat.le_of_ble_eq_true hc.2
    match al, ha with
    | [x', y'], hr =>
      have e : x' = _ := hr.1
      obtain ⟨x, e2, hx⟩ := hr.2.1
      subst e e2 es
      exact prim_kept hi (v' := .bool false) rfl (hi_ret hL (by omega))
  · rename_i s e0
    cases hc : decide (s.data.toList = pitchS.data.toList) with
    | false => rw [hc] at hpv; cases hpv
    | true =>
    rw [hc] at hpv
    simp only [cond_true, Option.some.injEq, Prod.mk.injEq] at hpv
    obtain ⟨rfl, rfl⟩ := hpv
    have es : s = pitchS := by
      obtain ⟨⟨l⟩⟩ := s
      have := of_decide_eq_true hc
      simp only at this
      subst this; rfl
    match al, ha with
    | [x', y'], hr =>
      have e : x' = _ := hr.1
      have e2 : y' = .int .i32 (e0.val β.env) := hr.2.1
      subst e e2 es
      refine prim_kept hi (v' := .bool (decide (pin (e0.val β.env) ≠ 0))) ?_ (rune_ret hL)
      show _ = Value.bool (decide ((appE 61 [e0]).val β.env ≠ 0))
      rw [appE_val, hfn]
      show _ = Value.bool (decide (g 61 [e0.val β.env] ≠ 0))
      rw [hg]
  · cases hpv
end
end Go.Proofs.Tryz
