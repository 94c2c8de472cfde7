/- The abstract machine: calls, guards, results; the code's own rules. -/
import Derived.Test.YtbfonnoebbjenaaGreatDoorAmQ
namespace Go.Am
open Go

variable {cx : Cx} {P : Program} {B fl : Nat} {β : Be} {st : St} {w : World}

/-- A call that comes back. -/
def CallRet (P : Program) (f : FuncId) (args : Array Value) (w : World) (Ψ : Value → World → Prop) : Prop :=
  (∃ v w', (callFunc f args).run P w = .ok (.value v) w' ∧ Ψ v w') ∨
  ((callFunc f args).run P w = .ok (.enter f args) w ∧ Calls P f args w fun e w' => ∃ v, e = .returned v ∧ Ψ v w')

theorem CallRet.mono {f : FuncId} {args : Array Value} {Ψ Φ : Value → World → Prop} (h : CallRet P f args w Ψ) (hm : ∀ v w', Ψ v w' → Φ v w') : CallRet P f args w Φ := by
  rcases h with ⟨v, w', h1, h2⟩ | ⟨h1, h2⟩
  · exact .inl ⟨v, w', h1, hm _ _ h2⟩
  · exact .inr ⟨h1, h2.mono fun e w' ⟨v, h3, h4⟩ => ⟨v, h3, hm _ _ h4⟩⟩

/-- What holds when the code is left: the continuation's word, at a state that the world answers to. -/
def Post (cx : Cx) (B fl : Nat) (β : Be) (st : St) (w : World) (K : Exit → Fr → St → Bool) : Exit → Act → World → Prop :=
  fun e a' w' => ∃ fr' st' β', K e fr' st' = true ∧ Good cx B fl β st w β' st' w' ∧ FrRel β' fr' a' ∧ a'.defers = []

theorem Post.trans {β1 : Be} {st1 : St} {w1 : World} {K : Exit → Fr → St → Bool} {e : Exit} {a : Act} {w' : World} (h : Good cx B fl β st w β1 st1 w1) (hp : Post cx B fl β1 st1 w1 K e a w') : Post cx B fl β st w K e a w' := by
  obtain ⟨fr', st', β', h1, h2, h3, h4⟩ := hp
  exact ⟨fr', st', β', h1, h.trans h2, h3, h4⟩

/-- The evaluator's word for code is the model's. -/
def CodeOk (cx : Cx) (P : Program) (B : Nat) (R : RunT) : Prop :=
  ∀ fl g c fr st K, R fl g c fr st K = true → plansOk cx g c = true → fl ≤ st.next → ∀ a w β, Inv cx B β st w → FrRel β fr a → a.defers = [] → c.wp P (Post cx B fl β st w K) a w

/-- The given primitives say what the calls do. -/
def PrimsOk (cx : Cx) (P : Program) (B : Nat) : Prop :=
  ∀ f p, cx.prim f = some p → ∀ fl β st w args (args' : Array Value) v st', Inv cx B β st w → fl ≤ st.next → All2 (VRel β) args args'.toList → p fl args st = some (v, st') →
    CallRet P f args' w fun v' w' => ∃ β', VRel β' v v' ∧ Good cx B fl β st w β' st' w'

theorem mkArgs_get : ∀ (l : List V) (i : Nat) (t : T V) (k : Nat), (mkArgs l i t).get k = if i ≤ k ∧ k - i < l.length then l[k - i]? else t.get k
  | [], i, t, k => by simp [mkArgs]
  | v :: vs, i, t, k => by
    rw [mkArgs, mkArgs_get vs (i + 1), T.get_set]
    by_cases h1 : k = i
    · subst h1
      rw [if_neg (by omega), if_pos rfl, if_pos (by simp)]; simp
    · by_cases h2 : i + 1 ≤ k ∧ k - (i + 1) < vs.length
      · rw [if_pos h2, if_pos ⟨by omega, by simp; omega⟩]
        have : k - i = (k - (i + 1)) + 1 := by omega
        rw [this]; simp
      · rw [if_neg h2, if_neg h1, if_neg (by simp; omega)]

theorem frame_enter {args : List V} {args' : Array Value} {n : Nat} (h : All2 (VRel β) args args'.toList) (hn : args.length ≤ n) :
    FrRel β ⟨n, mkArgs args 0 .nil⟩ { tmps := args' ++ Array.replicate (n - args'.size) undef, defers := [] } := by
  have hl : args'.size = args.length := by rw [← Array.length_toList, h.length]
  refine ⟨by simp [hl]; omega, fun t v hv => ?_⟩
  simp only at hv
  rw [mkArgs_get] at hv
  by_cases ht : 0 ≤ t ∧ t - 0 < args.length
  · rw [if_pos ht] at hv
    simp only [Nat.sub_zero] at hv ht
    obtain ⟨u, hu, hr⟩ := h.get t hv
    have hlt : t < args'.size := by omega
    have e : (args' ++ Array.replicate (n - args'.size) undef).getD t undef = u := by
      rw [Array.getD_eq_getD_getElem?, Array.getElem?_append_left hlt]
      have : args'[t]? = some u := by simpa using hu
      rw [this]; rfl
    rw [e]; exact hr
  · rw [if_neg ht] at hv
    simp [T.get] at hv

theorem loadN_ptr {p : C} {v : Value} {n : Nat} {l : List C} (hp : CRel β p v) (h : loadN cx st p n = some l) : ∃ q, v = .pointer (some q) := by
  unfold loadN at h
  split at h
  · obtain ⟨b, e, _, rfl⟩ := hp; exact ⟨_, rfl⟩
  · have e1 : v = _ := hp; exact ⟨_, e1⟩
  · have e1 : v = _ := hp; exact ⟨_, e1⟩
  · cases h

/-- one result's value -/
def resM (tmps : Array Value) : ResultVar → Sem Value
  | .tmp t => pure (tmps.getD t undef)
  | .cell c t => do loadVar t (← asAddr (tmps.getD c undef))

theorem resultsOf_rel (hx : CxOk cx P) (h : Inv cx B β st w) {fr : Fr} {a : Act} (hf : FrRel β fr a) : ∀ {rs : List ResultVar} {vs : List V}, resultsOf cx fr st rs = some vs →
    ∃ vs', (rs.mapM (resM a.tmps)).run P w = .ok vs' w ∧ All2 (VRel β) vs vs'
  | [], vs, h0 => by simp only [resultsOf, Option.some.injEq] at h0; subst h0; exact ⟨[], by simp, trivial⟩
  | .tmp t :: rs, vs, h0 => by
    simp only [resultsOf] at h0
    split at h0
    · rename_i v l hv hl
      simp only [Option.some.injEq] at h0; subst h0
      obtain ⟨vs', h1, h2⟩ := resultsOf_rel hx h hf hl
      exact ⟨_ :: vs', by simp only [List.mapM_cons, resM, Sem.run_bind, Sem.run_pure, Result.andThen_ok, h1], hf.val t v hv, h2⟩
    · cases h0
  | .cell c t :: rs, vs, h0 => by
    simp only [resultsOf] at h0
    split at h0
    · rename_i p ty l hp ht hl
      split at h0
      · rename_i v hv
        simp only [Option.some.injEq] at h0; subst h0
        obtain ⟨vs', h1, h2⟩ := resultsOf_rel hx h hf hl
        simp only [Option.bind_eq_some_iff] at hp
        obtain ⟨u, hu, hp⟩ := hp
        have := toC_some hp; subst this
        have hpr : CRel β p (a.tmps.getD c undef) := hf.val c _ hu
        obtain ⟨u', q1, q2⟩ := run_loadVar hx ht h hpr hv
        simp only [Option.bind_eq_some_iff] at hv
        obtain ⟨cs, hcs, _⟩ := hv
        obtain ⟨q, hq⟩ := loadN_ptr hpr hcs
        rw [hq] at q1
        have q3 : (do loadVar t (← asAddr (.pointer (some q))) : Sem Value).run P w = .ok u' w := by
          rw [← q1]; rfl
        refine ⟨u' :: vs', ?_, q2, h2⟩
        have q4 : (resM a.tmps (.cell c t)).run P w = .ok u' w := by
          rw [← q3]; unfold resM; simp only [hq]
        simp only [List.mapM_cons, Sem.run_bind, q4, Sem.run_pure, Result.andThen_ok, h1]
      · cases h0
    · cases h0

theorem toAs_rel : ∀ {l : List V} {m : List A} {l' : List Value}, toAs l = some m → All2 (VRel β) l l' → All2 (ARel β) m l'
  | [], m, [], h, _ => by simp only [toAs, Option.some.injEq] at h; subst h; trivial
  | [], _, _ :: _, _, h => h.elim
  | _ :: _, _, [], _, h => h.elim
  | .a x :: l, m, y :: l', h, hr => by
    simp only [toAs, Option.map_eq_some_iff] at h
    obtain ⟨m', h1, rfl⟩ := h
    exact ⟨hr.1, toAs_rel h1 hr.2⟩
  | .tup _ :: _, _, _ :: _, h, _ => by simp [toAs] at h

theorem result_rel (hx : CxOk cx P) (h : Inv cx B β st w) {fr : Fr} {a : Act} (hf : FrRel β fr a) {F : Func} {v : V} (hr : result cx F fr st = some v) :
    ∃ v', (results F a.tmps).run P w = .ok v' w ∧ VRel β v v' := by
  unfold result at hr
  cases hrs : resultsOf cx fr st F.results.toList with
  | none => rw [hrs] at hr; simp at hr
  | some vs =>
    rw [hrs] at hr
    obtain ⟨vs', h1, h2⟩ := resultsOf_rel hx h hf hrs
    have hrun : (results F a.tmps).run P w = .ok (if h : vs'.toArray.size = 1 then vs'.toArray[0] else .tuple vs'.toArray) w := by
      have hm : (F.results.mapM (resM a.tmps)).run P w = .ok vs'.toArray w := by
        rw [Array.mapM_eq_mapM_toList]
        simp only [Sem.run_map]
        rw [h1]; rfl
      have hd : results F a.tmps = (do
          let vs ← F.results.mapM (resM a.tmps)
          pure (if h : vs.size = 1 then vs[0] else .tuple vs)) := by
        unfold results; rfl
      rw [hd, Sem.run_bind, hm]
      rfl
    rw [hrun]
    match vs, vs', h2, hr with
    | [], [], _, hr =>
      simp only [toAs, Option.map_some, Option.some.injEq] at hr
      subst hr
      exact ⟨_, rfl, #[], rfl, trivial⟩
    | [x], [y], h2, hr =>
      simp only [Option.some.injEq] at hr
      subst hr
      exact ⟨_, rfl, h2.1⟩
    | x :: x2 :: l, y :: y2 :: l', h2, hr =>
      simp only [Option.map_eq_some_iff] at hr
      obtain ⟨m, hm, rfl⟩ := hr
      exact ⟨.tuple (y :: y2 :: l').toArray, by simp, _, rfl, by simpa using toAs_rel hm h2⟩

theorem callFunc_enter (hx : CxOk cx P) {f : FuncId} {F : Func} (hf : cx.fn f = some F) {c : Code} (hb : F.body = some c) (args : Array Value) (w : World) : (callFunc f args).run P w = .ok (.enter f args) w := by
  obtain ⟨h1, h2⟩ := hx.fn f F hf
  have h3 : F.name ≠ "runtime.NumGoroutine" := by simpa using h2
  simp [callFunc, h1, h3, hb]

theorem callF_ok (hx : CxOk cx P) (hp : PrimsOk cx P B) {R : RunT} (hR : CodeOk cx P B R) {f : FuncId} {args : List V} {args' : Array Value} {K : V → St → Bool} (hk : callF cx R fl f args st K = true) (hfl : fl ≤ st.next)
    (h : Inv cx B β st w) (ha : All2 (VRel β) args args'.toList) :
    CallRet P f args' w fun v' w' => ∃ v st' β', K v st' = true ∧ VRel β' v v' ∧ Good cx B fl β st w β' st' w' := by
  unfold callF at hk
  split at hk
  · rename_i p hpf
    split at hk
    · rename_i v st' hv
      exact (hp f p hpf fl β st w args args' v st' h hfl ha hv).mono fun v' w' ⟨β', q1, q2⟩ => ⟨v, st', β', hk, q1, q2⟩
    · cases hk
  · split at hk
    · cases hk
    · rename_i F hF
      split at hk
      · cases hk
      · rename_i c hb
        cases hn : Nat.ble args.length F.ntmps with
        | false => rw [hn] at hk; simp at hk
        | true =>
        rw [hn] at hk
        simp only [cond_true] at hk
        have hn' := Nat.le_of_ble_eq_true hn
        refine .inr ⟨callFunc_enter hx hF hb args' w, ?_⟩
        refine calls_of_wp (hx.fn f F hF).1 hb ?_
        refine wp_mono (hR fl f c _ st _ hk (hx.plans f F c hF hb) hfl _ w β h (frame_enter ha hn') rfl) ?_
        rintro e a' w' ⟨fr', st', β', hK, hG, hF', hd⟩
        have fin : ∀ v, result cx F fr' st' = some v → K v st' = true → a'.defers = [] ∧ ∃ v', (results F a'.tmps).run P w' = .ok v' w' ∧ ∃ v0, Ending.returned v' = .returned v0 ∧ ∃ v st' β', K v st' = true ∧ VRel β' v v0 ∧ Good cx B fl β st w β' st' w' := fun v hv hkv => by
          obtain ⟨v', q1, q2⟩ := result_rel hx hG.inv hF' hv
          exact ⟨hd, v', q1, v', rfl, v, st', β', hkv, q2, hG⟩
        cases e with
        | normal =>
          simp only at hK
          split at hK
          · rename_i v hv; exact fin v hv hK
          · cases hK
        | ret =>
          simp only at hK
          split at hK
          · rename_i v hv; exact fin v hv hK
          · cases hK
        | exit id => cases hK
        | goto l => cases hK
        | panic ch => cases hK
        | outgrown => cases hK
end Go.Am
