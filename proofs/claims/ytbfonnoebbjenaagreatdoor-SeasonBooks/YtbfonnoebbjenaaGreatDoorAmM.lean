/- The abstract machine: comparisons and arithmetic as the model runs them. -/
import Derived.Test.YtbfonnoebbjenaaGreatDoorAmL
import Derived.Laws.StructEq
namespace Go.Am
open Go

variable {cx : Cx} {P : Program} {B fl : Nat} {β : Be} {st : St} {w : World}

theorem run_partA (hx : CxOk cx P) {t : TypeId} {cs : List C} {a : Array Value} (h1 : All2 (CRel β) cs a.toList) (h2 : ScalL a.toList) {off : Nat} {x : A} (hp : partA cx t cs off = some x) (w : World) :
    ∃ v', (part t a off).run P w = .ok v' w ∧ ARel β x v' := by
  unfold partA at hp
  split at hp
  · rename_i ty ht
    split at hp
    · rename_i y hy
      simp only [Option.some.injEq] at hp; subst hp
      simp only [Option.bind_eq_some_iff] at hy
      obtain ⟨l, hl, hpk⟩ := hy
      exact run_part hx ht h1 h2 hl hpk w
    · cases hp
  · cases hp

/-- '==' at an array: element by element -/
def eqElems (d : Nat) (e : TypeId) (xs ys : Array Value) (size : Nat) : Nat → Nat → Sem Bool
  | 0, _ => pure true
  | n + 1, i => do
    let a ← part e xs (i * size)
    let b ← part e ys (i * size)
    let r ← Op.equalIn d e a b
    if (!r) = true then pure false else eqElems d e xs ys size n (i + 1)

theorem run_equalIn_arr (d : Nat) (t e : TypeId) (n : Nat) (i : TypeInfo) (xs ys : Array Value) (ht : P.underlying t = some (.array n e)) (hi : P.info? e = some i) (w : World) :
    (Op.equalIn (d + 1) t (.agg xs) (.agg ys)).run P w = (eqElems d e xs ys i.size n 0).run P w := by
  simp only [Op.equalIn, Sem.run_bind, run_underlying ht, Result.andThen_ok, sizeOf, typeInfo, run_program, hi, Sem.run_pure, Std.Legacy.Range.forIn_eq_forIn_range', Std.Legacy.Range.size]
  have key : ∀ (F : Option Bool × PUnit → Sem Bool), F (none, ⟨⟩) = pure true → (∀ b, F (some b, ⟨⟩) = pure b) → ∀ (m k : Nat) (w : World), ((forIn (List.range' k m 1) (none, PUnit.unit) fun j r => do
        let __do_lift ← part e xs (j * i.size)
        let __do_lift_1 ← part e ys (j * i.size)
        let __do_lift ← Op.equalIn d e __do_lift __do_lift_1
        if (!__do_lift) = true then pure (ForInStep.done (some false, PUnit.unit)) else pure (ForInStep.yield (none, PUnit.unit)) : Sem (Option Bool × PUnit)).run P w).andThen
        (fun a w' => (F a).run P w') = (eqElems d e xs ys i.size m k).run P w := by
    intro F hF1 hF2 m
    induction m with
    | zero => intro k w; simp [eqElems, hF1]
    | succ m ih =>
      intro k w
      simp only [List.range'_succ, List.forIn_cons, eqElems, Sem.run_bind]
      generalize (part e xs (k * i.size)).run P w = r1
      cases r1 with
      | ok a w1 =>
        simp only [Result.andThen_ok]
        generalize (part e ys (k * i.size)).run P w1 = r2
        cases r2 with
        | ok b w2 =>
          simp only [Result.andThen_ok]
          generalize (Op.equalIn d e a b).run P w2 = r3
          cases r3 with
          | ok r w3 =>
            cases r
            · simp [Sem.run_pure, hF2]
            · simp only [Result.andThen_ok, Bool.not_true, Bool.false_eq_true, if_false, Sem.run_pure]
              exact ih (k + 1) w3
          | halt x w3 => simp [Result.andThen]
        | halt x w2 => simp [Result.andThen]
      | halt x w1 => simp [Result.andThen]
  rw [Nat.sub_zero, Nat.add_sub_cancel, Nat.div_one]
  exact key _ rfl (fun _ => rfl) n 0 w

theorem eqFs_rel (hx : CxOk cx P) (E : TypeId → A → A → Option Bool) (d : Nat) (hE : ∀ t x y x' y' r, ARel β x x' → ARel β y y' → E t x y = some r → ∀ w, (Op.equalIn d t x' y').run P w = .ok r w) {xs ys : List C} {a b : Array Value}
    (h1 : All2 (CRel β) xs a.toList) (h2 : ScalL a.toList) (h3 : All2 (CRel β) ys b.toList) (h4 : ScalL b.toList) : ∀ (fs : List Field) (r : Bool), (∀ f ∈ fs, f.name ≠ "_") → eqFs cx E xs ys fs = some r →
    ∀ w, (Op.eqFields d a b fs).run P w = .ok r w
  | [], r, _, h, w => by simp only [eqFs, Option.some.injEq] at h; subst h; rfl
  | f :: fs, r, hn, h, w => by
    simp only [eqFs] at h
    split at h
    case h_2 => cases h
    rename_i x y hx' hy'
    obtain ⟨x1, e1, r1⟩ := run_partA hx h1 h2 hx' w
    obtain ⟨y1, e2, r2⟩ := run_partA hx h3 h4 hy' w
    have hne := hn f (by simp)
    simp only [Op.eqFields, hne, ne_eq, not_false_eq_true, if_true, Sem.run_bind, e1, e2, Result.andThen_ok]
    split at h
    · rename_i he
      rw [hE _ _ _ _ _ _ r1 r2 he w]
      simp only [Result.andThen_ok, Bool.not_true, Bool.false_eq_true, if_false]
      exact eqFs_rel hx E d hE h1 h2 h3 h4 fs r (fun f hf => hn f (by simp [hf])) h w
    · rename_i he
      simp only [Option.some.injEq] at h; subst h
      rw [hE _ _ _ _ _ _ r1 r2 he w]
      simp
    · cases h

theorem eqArr_rel (hx : CxOk cx P) (E : TypeId → A → A → Option Bool) (d : Nat) (hE : ∀ t x y x' y' r, ARel β x x' → ARel β y y' → E t x y = some r → ∀ w, (Op.equalIn d t x' y').run P w = .ok r w) {xs ys : List C} {a b : Array Value}
    (h1 : All2 (CRel β) xs a.toList) (h2 : ScalL a.toList) (h3 : All2 (CRel β) ys b.toList) (h4 : ScalL b.toList) (e : TypeId) (size : Nat) : ∀ (n i : Nat) (r : Bool), eqArr cx E xs ys e size n i = some r →
    ∀ w, (eqElems d e a b size n i).run P w = .ok r w
  | 0, i, r, h, w => by simp only [eqArr, Option.some.injEq] at h; subst h; rfl
  | n + 1, i, r, h, w => by
    simp only [eqArr] at h
    split at h
    case h_2 => cases h
    rename_i x y hx' hy'
    obtain ⟨x1, e1, r1⟩ := run_partA hx h1 h2 hx' w
    obtain ⟨y1, e2, r2⟩ := run_partA hx h3 h4 hy' w
    simp only [eqElems, Sem.run_bind, e1, e2, Result.andThen_ok]
    split at h
    · rename_i he
      rw [hE _ _ _ _ _ _ r1 r2 he w]
      simp only [Result.andThen_ok, Bool.not_true, Bool.false_eq_true, if_false]
      exact eqArr_rel hx E d hE h1 h2 h3 h4 e size n (i + 1) r h w
    · rename_i he
      simp only [Option.some.injEq] at h; subst h
      rw [hE _ _ _ _ _ _ r1 r2 he w]
      simp
    · cases h

theorem symE_rel {x y : C} {x' y' : Value} {k k' : IntKind} {a b : E} (hx : CRel β x x') (hy : CRel β y y') (h : symE x y = some (k, a, k', b)) : x' = .int k (a.val β.env) ∧ y' = .int k' (b.val β.env) := by
  unfold symE at h
  split at h <;> simp only [Option.some.injEq, Prod.mk.injEq, reduceCtorEq] at h <;> obtain ⟨rfl, rfl, rfl, rfl⟩ := h <;> exact ⟨hx, hy⟩

theorem eqA_rel (hx : CxOk cx P) (hf : Facts cx β.env) : ∀ (d k : Nat) (t : TypeId) (x y : A) (x' y' : Value) (r : Bool), ARel β x x' → ARel β y y' → eqA cx d t x y = some r → ∀ w, (Op.equalIn (d + k) t x' y').run P w = .ok r w
  | 0, _, _, _, _, _, _, _, _, _, h, _ => by simp [eqA] at h
  | d + 1, k, t, x, y, x', y', r, hxr, hyr, h, w => by
    have ih := fun t x y x' y' r h1 h2 h3 => eqA_rel hx hf d k t x y x' y' r h1 h2 h3
    rw [show d + 1 + k = (d + k) + 1 by omega]
    simp only [eqA] at h
    split at h
    case h_2 => cases h
    rename_i ty ht
    obtain ⟨i, z, hT⟩ := hx.is ht
    split at h
    · rename_i hu
      have e1 : x' = _ := hxr
      have e2 : y' = _ := hyr
      subst e1 e2
      simp only [Option.some.injEq] at h; subst h
      exact run_equalIn_bool w _ _ _ _ (by rw [hT.under, hu])
    · rename_i k' k1 a k2 b hu
      have e1 : x' = _ := hxr
      have e2 : y' = _ := hyr
      subst e1 e2
      cases hk : decide (k1 = k2) with
      | false => rw [hk] at h; simp at h
      | true =>
        rw [hk] at h
        simp only [cond_true, Option.some.injEq] at h; subst h
        have hk' := of_decide_eq_true hk
        subst hk'
        exact run_equalIn_int w _ _ _ k' _ _ (by rw [hT.under, hu])
    · rename_i hu
      have e1 : x' = _ := hxr
      have e2 : y' = _ := hyr
      subst e1 e2
      simp only [Option.some.injEq] at h; subst h
      exact run_equalIn_string w _ _ _ _ (by rw [hT.under, hu])
    · rename_i kk a b _ hu
      split at h
      · rename_i k1 p k2 q hs
        cases hk : decide (k1 = k2) with
        | false => rw [hk] at h; simp at h
        | true =>
          rw [hk] at h
          simp only [cond_true] at h
          have hk' := of_decide_eq_true hk
          subst hk'
          obtain ⟨rfl, rfl⟩ := symE_rel hxr hyr hs
          have := ask_holds hf h
          simp only [Tst.holds] at this
          rw [run_equalIn_int w _ _ _ kk _ _ (by rw [hT.under, hu]), this]
      · cases h
    · rename_i fs xs ys hu
      cases he : cx.eqT t with
      | false => rw [he] at h; simp at h
      | true =>
        rw [he] at h
        simp only [cond_true] at h
        obtain ⟨s1, s2, s3⟩ := hx.eqs t he
        have hu' : P.underlying t = some (.struct fs) := by rw [hT.under, hu]
        have hf : P.fieldsOf t = fs := by simp [Program.fieldsOf, hu']
        obtain ⟨a, rfl, h1, h2⟩ := hxr
        obtain ⟨b, rfl, h3, h4⟩ := hyr
        rw [run_equalIn_struct w (d + k) t a b (by rw [hf]; exact hu') s1, hf]
        exact eqFs_rel hx _ _ ih h1 h2 h3 h4 fs.toList r (s3 fs hu') h w
    · rename_i n e xs ys hu
      split at h
      case h_2 => cases h
      rename_i ety het
      obtain ⟨i', z', hE⟩ := hx.is het
      obtain ⟨a, rfl, h1, h2⟩ := hxr
      obtain ⟨b, rfl, h3, h4⟩ := hyr
      rw [run_equalIn_arr (d + k) t e n i' a b (by rw [hT.under, hu]) hE.info w, hE.size]
      exact eqArr_rel hx _ _ ih h1 h2 h3 h4 e _ n 0 r h w
    · cases h

theorem refIsNil_rel {d : TypeDesc} {x : C} {x' : Value} {r : Bool} (h : CRel β x x') (hn : refIsNil d x = some r) :
    (∃ e a, d = .pointer e ∧ x' = .pointer a ∧ r = a.isNone) ∨ (∃ e a n c, d = .slice e ∧ x' = .slice a n c ∧ r = a.isNone) ∨ (∃ k e a, d = .map k e ∧ x' = .map a ∧ r = a.isNone) ∨
    (∃ p q v, d = .func p q v ∧ ((x' = .nilFunc ∧ r = true) ∨ (∃ f a b, x' = .func f a b) ∧ r = false)) := by
  unfold refIsNil at hn
  split at hn
  · simp only [Option.some.injEq] at hn; subst hn; exact .inl ⟨_, _, rfl, h, rfl⟩
  · simp only [Option.some.injEq] at hn; subst hn; obtain ⟨b, e, _, rfl⟩ := h; exact .inl ⟨_, _, rfl, rfl, rfl⟩
  · simp only [Option.some.injEq] at hn; subst hn; exact .inr (.inl ⟨_, _, _, _, rfl, h, rfl⟩)
  · simp only [Option.some.injEq] at hn; subst hn; obtain ⟨b, e, _, rfl⟩ := h; exact .inr (.inl ⟨_, _, _, _, rfl, rfl, rfl⟩)
  · simp only [Option.some.injEq] at hn; subst hn; exact .inr (.inr (.inl ⟨_, _, _, rfl, h, rfl⟩))
  · simp only [Option.some.injEq] at hn; subst hn; obtain ⟨b, e, _, rfl⟩ := h; exact .inr (.inr (.inl ⟨_, _, _, rfl, rfl, rfl⟩))
  · simp only [Option.some.injEq] at hn; subst hn; exact .inr (.inr (.inr ⟨_, _, _, rfl, .inl ⟨h, rfl⟩⟩))
  · simp only [Option.some.injEq] at hn; subst hn; obtain ⟨bs, _, rfl⟩ := h; exact .inr (.inr (.inr ⟨_, _, _, rfl, .inr ⟨⟨_, _, _, rfl⟩, rfl⟩⟩))
  · cases hn

section
variable {t : TypeId} (d : Nat) (w : World)
theorem eqIn_ptr {e : TypeId} (ht : P.underlying t = some (.pointer e)) (a b : Option Addr) (r : Bool) (h : (a.isNone = true ∧ r = b.isNone) ∨ (b.isNone = true ∧ r = a.isNone)) : (Op.equalIn (d + 1) t (.pointer a) (.pointer b)).run P w = .ok r w := by
  rcases h with ⟨h1, rfl⟩ | ⟨h1, rfl⟩
  · cases a with
    | none => simp [Op.equalIn, run_underlying ht]
    | some a => simp at h1
  · cases b with
    | none => cases a <;> simp [Op.equalIn, run_underlying ht]
    | some b => simp at h1
theorem eqIn_slice {e : TypeId} (ht : P.underlying t = some (.slice e)) (a b : Option Addr) (n c n' c' : Nat) (r : Bool) (h : (a.isNone = true ∧ r = b.isNone) ∨ (b.isNone = true ∧ r = a.isNone)) : (Op.equalIn (d + 1) t (.slice a n c) (.slice b n' c')).run P w = .ok r w := by
  rcases h with ⟨h1, rfl⟩ | ⟨h1, rfl⟩
  · cases a with
    | none => simp [Op.equalIn, run_underlying ht]
    | some a => simp at h1
  · cases b with
    | none => cases a <;> simp [Op.equalIn, run_underlying ht]
    | some b => simp at h1
theorem eqIn_map {k e : TypeId} (ht : P.underlying t = some (.map k e)) (a b : Option Nat) (r : Bool) (h : (a.isNone = true ∧ r = b.isNone) ∨ (b.isNone = true ∧ r = a.isNone)) : (Op.equalIn (d + 1) t (.map a) (.map b)).run P w = .ok r w := by
  rcases h with ⟨h1, rfl⟩ | ⟨h1, rfl⟩
  · cases a with
    | none => simp [Op.equalIn, run_underlying ht]
    | some a => simp at h1
  · cases b with
    | none => cases a <;> simp [Op.equalIn, run_underlying ht]
    | some b => simp at h1
theorem eqIn_func {p q : Array TypeId} {v : Bool} (ht : P.underlying t = some (.func p q v)) (f : Fn) (a b : Array Value) :
    (Op.equalIn (d + 1) t .nilFunc .nilFunc).run P w = .ok true w ∧ (Op.equalIn (d + 1) t .nilFunc (.func f a b)).run P w = .ok false w ∧ (Op.equalIn (d + 1) t (.func f a b) .nilFunc).run P w = .ok false w := by
  refine ⟨?_, ?_, ?_⟩ <;> simp [Op.equalIn, run_underlying ht]
end

theorem run_nilCmp {t : TypeId} {d : TypeDesc} (ht : P.underlying t = some d) {x y : C} {x' y' : Value} (hx : CRel β x x') (hy : CRel β y y') {r : Bool} (h : nilCmp d x y = some r) (w : World) :
    (Op.equal t x' y').run P w = .ok r w ∧ (∀ op a b, (eqGuard op t a b x' y').run P w = .ok () w) ∧ binOp .eql t x' y' = (do pure (.bool (← Op.equal t x' y'))) ∧ binOp .neq t x' y' = (do pure (.bool (!(← Op.equal t x' y')))) := by
  have h' : (∃ q, refIsNil d x = some true ∧ refIsNil d y = some q ∧ r = q) ∨ (∃ q, refIsNil d x = some q ∧ refIsNil d y = some true ∧ r = q) := by
    unfold nilCmp at h
    split at h
    · rename_i h1 h2; simp only [Option.some.injEq] at h; exact .inl ⟨_, h1, h2, h.symm⟩
    · rename_i h1 h2; simp only [Option.some.injEq] at h; exact .inr ⟨_, h1, h2, h.symm⟩
    · cases h
  have key : ∀ p q, refIsNil d x = some p → refIsNil d y = some q → ((p = true ∧ r = q) ∨ (q = true ∧ r = p)) →
    (Op.equal t x' y').run P w = .ok r w ∧ (∀ op a b, (eqGuard op t a b x' y').run P w = .ok () w) ∧ binOp .eql t x' y' = (do pure (.bool (← Op.equal t x' y'))) ∧ binOp .neq t x' y' = (do pure (.bool (!(← Op.equal t x' y')))) := by
    intro p q h1 h2 hpq
    rcases refIsNil_rel hx h1 with ⟨e, a, rfl, rfl, rfl⟩ | ⟨e, a, n, c, rfl, rfl, rfl⟩ | ⟨k, e, a, rfl, rfl, rfl⟩ | ⟨pp, qq, vv, rfl, hxx⟩ <;>
      rcases refIsNil_rel hy h2 with ⟨e', a', he, rfl, rfl⟩ | ⟨e', a', n', c', he, rfl, rfl⟩ | ⟨k', e', a', he, rfl, rfl⟩ | ⟨pp', qq', vv', he, hyy⟩ <;> cases he
    · exact ⟨eqIn_ptr 9999 w ht _ _ _ hpq, fun op u v => by cases op <;> rfl, rfl, rfl⟩
    · exact ⟨eqIn_slice 9999 w ht _ _ _ _ _ _ _ hpq, fun op u v => by cases op <;> rfl, rfl, rfl⟩
    · exact ⟨eqIn_map 9999 w ht _ _ _ hpq, fun op u v => by cases op <;> rfl, rfl, rfl⟩
    · rcases hxx with ⟨rfl, rfl⟩ | ⟨⟨f, a, b, rfl⟩, rfl⟩ <;> rcases hyy with ⟨rfl, rfl⟩ | ⟨⟨f', a', b', rfl⟩, rfl⟩
      · have : r = true := by simpa using hpq
        subst this
        exact ⟨(eqIn_func 9999 w ht (.func 0) #[] #[]).1, fun op u v => by cases op <;> rfl, rfl, rfl⟩
      · have : r = false := by simpa using hpq
        subst this
        exact ⟨(eqIn_func 9999 w ht f' a' b').2.1, fun op u v => by cases op <;> rfl, rfl, rfl⟩
      · have : r = false := by simpa using hpq
        subst this
        exact ⟨(eqIn_func 9999 w ht f a b).2.2, fun op u v => by cases op <;> rfl, rfl, rfl⟩
      · simp at hpq
  rcases h' with ⟨q, h1, h2, rfl⟩ | ⟨q, h1, h2, rfl⟩
  · exact key _ _ h1 h2 (.inl ⟨rfl, rfl⟩)
  · exact key _ _ h1 h2 (.inr ⟨rfl, rfl⟩)
end Go.Am
