/- The abstract machine: comparisons and arithmetic as the model runs them. The abstract machine: operators and conversions as the model runs them. -/
import Derived.Test.YthlmjjdlmidnlaaGreatDoorAmK
import Derived.Laws.StructEq
import Derived.Lib.Builder
namespace Go.Am
open Go

variable {cx : Cx} {P : Program} {B fl : Nat} {β : Be} {st : St} {w : World}

theorem run_partA (hx : CxOk cx P) {t : TypeId} {cs : List C} {a : Array Value} (h1 : All2 (CRel β) cs a.toList) (h2 : ScalL a.toList) {off : Nat} {x : A} (hp : partA cx t cs off = some x) (w : World) :
    ∃ v', (part t a off).run P w = .ok v' w ∧ ARel β x v' := by
  unfold partA at hp
  split at hp
  · rename_i ty ht
    split at hp
    · rename_i y hy
      simp only [Option.some.injEq] at hp; subst hp
      simp only [Option.bind_eq_some_iff] at hy
      obtain ⟨l, hl, hpk⟩ := hy
      exact run_part hx ht h1 h2 hl hpk w
    · cases hp
  · cases hp

/-- '==' at an array: element by element -/
def eqElems (d : Nat) (e : TypeId) (xs ys : Array Value) (size : Nat) : Nat → Nat → Sem Bool
  | 0, _ => pure true
  | n + 1, i => do
    let a ← part e xs (i * size)
    let b ← part e ys (i * size)
    let r ← Op.equalIn d e a b
    if (!r) = true then pure false else eqElems d e xs ys size n (i + 1)

theorem run_equalIn_arr (d : Nat) (t e : TypeId) (n : Nat) (i : TypeInfo) (xs ys : Array Value) (ht : P.underlying t = some (.array n e)) (hi : P.info? e = some i) (w : World) :
    (Op.equalIn (d + 1) t (.agg xs) (.agg ys)).run P w = (eqElems d e xs ys i.size n 0).run P w := by
  simp only [Op.equalIn, Sem.run_bind, run_underlying ht, Result.andThen_ok, sizeOf, typeInfo, run_program, hi, Sem.run_pure, Std.Legacy.Range.forIn_eq_forIn_range', Std.Legacy.Range.size]
  have key : ∀ (F : Option Bool × PUnit → Sem Bool), F (none, ⟨⟩) = pure true → (∀ b, F (some b, ⟨⟩) = pure b) → ∀ (m k : Nat) (w : World), ((forIn (List.range' k m 1) (none, PUnit.unit) fun j r => do
        let __do_lift ← part e xs (j * i.size)
        let __do_lift_1 ← part e ys (j * i.size)
        let __do_lift ← Op.equalIn d e __do_lift __do_lift_1
        if (!__do_lift) = true then pure (ForInStep.done (some false, PUnit.unit)) else pure (ForInStep.yield (none, PUnit.unit)) : Sem (Option Bool × PUnit)).run P w).andThen
        (fun a w' => (F a).run P w') = (eqElems d e xs ys i.size m k).run P w := by
    intro F hF1 hF2 m
    induction m with
    | zero => intro k w; simp [eqElems, hF1]
    | succ m ih =>
      intro k w
      simp only [List.range'_succ, List.forIn_cons, eqElems, Sem.run_bind]
      generalize (part e xs (k * i.size)).run P w = r1
      cases r1 with
      | ok a w1 =>
        simp only [Result.andThen_ok]
        generalize (part e ys (k * i.size)).run P w1 = r2
        cases r2 with
        | ok b w2 =>
          simp only [Result.andThen_ok]
          generalize (Op.equalIn d e a b).run P w2 = r3
          cases r3 with
          | ok r w3 =>
            cases r
            · simp [Sem.run_pure, hF2]
            · simp only [Result.andThen_ok, Bool.not_true, Bool.false_eq_true, if_false, Sem.run_pure]
              exact ih (k + 1) w3
          | halt x w3 => simp [Result.andThen]
        | halt x w2 => simp [Result.andThen]
      | halt x w1 => simp [Result.andThen]
  rw [Nat.sub_zero, Nat.add_sub_cancel, Nat.div_one]
  exact key _ rfl (fun _ => rfl) n 0 w

theorem eqFs_rel (hx : CxOk cx P) (E : TypeId → A → A → Option Bool) (d : Nat) (hE : ∀ t x y x' y' r, ARel β x x' → ARel β y y' → E t x y = some r → ∀ w, (Op.equalIn d t x' y').run P w = .ok r w) {xs ys : List C} {a b : Array Value}
    (h1 : All2 (CRel β) xs a.toList) (h2 : ScalL a.toList) (h3 : All2 (CRel β) ys b.toList) (h4 : ScalL b.toList) : ∀ (fs : List Field) (r : Bool), (∀ f ∈ fs, f.name ≠ "_") → eqFs cx E xs ys fs = some r →
    ∀ w, (Op.eqFields d a b fs).run P w = .ok r w
  | [], r, _, h, w => by simp only [eqFs, Option.some.injEq] at h; subst h; rfl
  | f :: fs, r, hn, h, w => by
    simp only [eqFs] at h
    split at h
    case h_2 => cases h
    rename_i x y hx' hy'
    obtain ⟨x1, e1, r1⟩ := run_partA hx h1 h2 hx' w
    obtain ⟨y1, e2, r2⟩ := run_partA hx h3 h4 hy' w
    have hne := hn f (by simp)
    simp only [Op.eqFields, hne, ne_eq, not_false_eq_true, if_true, Sem.run_bind, e1, e2, Result.andThen_ok]
    split at h
    · rename_i he
      rw [hE _ _ _ _ _ _ r1 r2 he w]
      simp only [Result.andThen_ok, Bool.not_true, Bool.false_eq_true, if_false]
      exact eqFs_rel hx E d hE h1 h2 h3 h4 fs r (fun f hf => hn f (by simp [hf])) h w
    · rename_i he
      simp only [Option.some.injEq] at h; subst h
      rw [hE _ _ _ _ _ _ r1 r2 he w]
      simp
    · cases h

theorem eqArr_rel (hx : CxOk cx P) (E : TypeId → A → A → Option Bool) (d : Nat) (hE : ∀ t x y x' y' r, ARel β x x' → ARel β y y' → E t x y = some r → ∀ w, (Op.equalIn d t x' y').run P w = .ok r w) {xs ys : List C} {a b : Array Value}
    (h1 : All2 (CRel β) xs a.toList) (h2 : ScalL a.toList) (h3 : All2 (CRel β) ys b.toList) (h4 : ScalL b.toList) (e : TypeId) (size : Nat) : ∀ (n i : Nat) (r : Bool), eqArr cx E xs ys e size n i = some r →
    ∀ w, (eqElems d e a b size n i).run P w = .ok r w
  | 0, i, r, h, w => by simp only [eqArr, Option.some.injEq] at h; subst h; rfl
  | n + 1, i, r, h, w => by
    simp only [eqArr] at h
    split at h
    case h_2 => cases h
    rename_i x y hx' hy'
    obtain ⟨x1, e1, r1⟩ := run_partA hx h1 h2 hx' w
    obtain ⟨y1, e2, r2⟩ := run_partA hx h3 h4 hy' w
    simp only [eqElems, Sem.run_bind, e1, e2, Result.andThen_ok]
    split at h
    · rename_i he
      rw [hE _ _ _ _ _ _ r1 r2 he w]
      simp only [Result.andThen_ok, Bool.not_true, Bool.false_eq_true, if_false]
      exact eqArr_rel hx E d hE h1 h2 h3 h4 e size n (i + 1) r h w
    · rename_i he
      simp only [Option.some.injEq] at h; subst h
      rw [hE _ _ _ _ _ _ r1 r2 he w]
      simp
    · cases h

theorem symE_rel {x y : C} {x' y' : Value} {k k' : IntKind} {a b : E} (hx : CRel β x x') (hy : CRel β y y') (h : symE x y = some (k, a, k', b)) : x' = .int k (a.val β.env) ∧ y' = .int k' (b.val β.env) := by
  unfold symE at h
  split at h <;> simp only [Option.some.injEq, Prod.mk.injEq, reduceCtorEq] at h <;> obtain ⟨rfl, rfl, rfl, rfl⟩ := h <;> exact ⟨hx, hy⟩

theorem eqA_rel (hx : CxOk cx P) (hf : Facts cx β.env) : ∀ (d k : Nat) (t : TypeId) (x y : A) (x' y' : Value) (r : Bool), ARel β x x' → ARel β y y' → eqA cx d t x y = some r → ∀ w, (Op.equalIn (d + k) t x' y').run P w = .ok r w
  | 0, _, _, _, _, _, _, _, _, _, h, _ => by simp [eqA] at h
  | d + 1, k, t, x, y, x', y', r, hxr, hyr, h, w => by
    have ih := fun t x y x' y' r h1 h2 h3 => eqA_rel hx hf d k t x y x' y' r h1 h2 h3
    rw [show d + 1 + k = (d + k) + 1 by omega]
    simp only [eqA] at h
    split at h
    case h_2 => cases h
    rename_i ty ht
    obtain ⟨i, z, hT⟩ := hx.is ht
    split at h
    · rename_i hu
      have e1 : x' = _ := hxr
      have e2 : y' = _ := hyr
      subst e1 e2
      simp only [Option.some.injEq] at h; subst h
      exact run_equalIn_bool w _ _ _ _ (by rw [hT.under, hu])
    · rename_i k' k1 a k2 b hu
      have e1 : x' = _ := hxr
      have e2 : y' = _ := hyr
      subst e1 e2
      cases hk : decide (k1 = k2) with
      | false => rw [hk] at h; simp at h
      | true =>
        rw [hk] at h
        simp only [cond_true, Option.some.injEq] at h; subst h
        have hk' := of_decide_eq_true hk
        subst hk'
        exact run_equalIn_int w _ _ _ k' _ _ (by rw [hT.under, hu])
    · rename_i hu
      have e1 : x' = _ := hxr
      have e2 : y' = _ := hyr
      subst e1 e2
      simp only [Option.some.injEq] at h; subst h
      exact run_equalIn_string w _ _ _ _ (by rw [hT.under, hu])
    · rename_i kk a b _ hu
      split at h
      · rename_i k1 p k2 q hs
        cases hk : decide (k1 = k2) with
        | false => rw [hk] at h; simp at h
        | true =>
          rw [hk] at h
          simp only [cond_true] at h
          have hk' := of_decide_eq_true hk
          subst hk'
          obtain ⟨rfl, rfl⟩ := symE_rel hxr hyr hs
          have := ask_holds hf h
          simp only [Tst.holds] at this
          rw [run_equalIn_int w _ _ _ kk _ _ (by rw [hT.under, hu]), this]
      · cases h
    · rename_i fs xs ys hu
      cases he : cx.eqT t with
      | false => rw [he] at h; simp at h
      | true =>
        rw [he] at h
        simp only [cond_true] at h
        obtain ⟨s1, s2, s3⟩ := hx.eqs t he
        have hu' : P.underlying t = some (.struct fs) := by rw [hT.under, hu]
        have hf : P.fieldsOf t = fs := by simp [Program.fieldsOf, hu']
        obtain ⟨a, rfl, h1, h2⟩ := hxr
        obtain ⟨b, rfl, h3, h4⟩ := hyr
        rw [run_equalIn_struct w (d + k) t a b (by rw [hf]; exact hu') s1, hf]
        exact eqFs_rel hx _ _ ih h1 h2 h3 h4 fs.toList r (s3 fs hu') h w
    · rename_i n e xs ys hu
      split at h
      case h_2 => cases h
      rename_i ety het
      obtain ⟨i', z', hE⟩ := hx.is het
      obtain ⟨a, rfl, h1, h2⟩ := hxr
      obtain ⟨b, rfl, h3, h4⟩ := hyr
      rw [run_equalIn_arr (d + k) t e n i' a b (by rw [hT.under, hu]) hE.info w, hE.size]
      exact eqArr_rel hx _ _ ih h1 h2 h3 h4 e _ n 0 r h w
    · cases h

theorem refIsNil_rel {d : TypeDesc} {x : C} {x' : Value} {r : Bool} (h : CRel β x x') (hn : refIsNil d x = some r) :
    (∃ e a, d = .pointer e ∧ x' = .pointer a ∧ r = a.isNone) ∨ (∃ e a n c, d = .slice e ∧ x' = .slice a n c ∧ r = a.isNone) ∨ (∃ k e a, d = .map k e ∧ x' = .map a ∧ r = a.isNone) ∨
    (∃ p q v, d = .func p q v ∧ ((x' = .nilFunc ∧ r = true) ∨ (∃ f a b, x' = .func f a b) ∧ r = false)) := by
  unfold refIsNil at hn
  split at hn
  · simp only [Option.some.injEq] at hn; subst hn; exact .inl ⟨_, _, rfl, h, rfl⟩
  · simp only [Option.some.injEq] at hn; subst hn; obtain ⟨b, e, _, rfl⟩ := h; exact .inl ⟨_, _, rfl, rfl, rfl⟩
  · simp only [Option.some.injEq] at hn; subst hn; exact .inr (.inl ⟨_, _, _, _, rfl, h, rfl⟩)
  · simp only [Option.some.injEq] at hn; subst hn; obtain ⟨b, e, _, rfl⟩ := h; exact .inr (.inl ⟨_, _, _, _, rfl, rfl, rfl⟩)
  · simp only [Option.some.injEq] at hn; subst hn; exact .inr (.inr (.inl ⟨_, _, _, rfl, h, rfl⟩))
  · simp only [Option.some.injEq] at hn; subst hn; obtain ⟨b, e, _, rfl⟩ := h; exact .inr (.inr (.inl ⟨_, _, _, rfl, rfl, rfl⟩))
  · simp only [Option.some.injEq] at hn; subst hn; exact .inr (.inr (.inr ⟨_, _, _, rfl, .inl ⟨h, rfl⟩⟩))
  · simp only [Option.some.injEq] at hn; subst hn; obtain ⟨bs, _, rfl⟩ := h; exact .inr (.inr (.inr ⟨_, _, _, rfl, .inr ⟨⟨_, _, _, rfl⟩, rfl⟩⟩))
  · cases hn

section
variable {t : TypeId} (d : Nat) (w : World)
theorem eqIn_ptr {e : TypeId} (ht : P.underlying t = some (.pointer e)) (a b : Option Addr) (r : Bool) (h : (a.isNone = true ∧ r = b.isNone) ∨ (b.isNone = true ∧ r = a.isNone)) : (Op.equalIn (d + 1) t (.pointer a) (.pointer b)).run P w = .ok r w := by
  rcases h with ⟨h1, rfl⟩ | ⟨h1, rfl⟩
  · cases a with
    | none => simp [Op.equalIn, run_underlying ht]
    | some a => simp at h1
  · cases b with
    | none => cases a <;> simp [Op.equalIn, run_underlying ht]
    | some b => simp at h1
theorem eqIn_slice {e : TypeId} (ht : P.underlying t = some (.slice e)) (a b : Option Addr) (n c n' c' : Nat) (r : Bool) (h : (a.isNone = true ∧ r = b.isNone) ∨ (b.isNone = true ∧ r = a.isNone)) : (Op.equalIn (d + 1) t (.slice a n c) (.slice b n' c')).run P w = .ok r w := by
  rcases h with ⟨h1, rfl⟩ | ⟨h1, rfl⟩
  · cases a with
    | none => simp [Op.equalIn, run_underlying ht]
    | some a => simp at h1
  · cases b with
    | none => cases a <;> simp [Op.equalIn, run_underlying ht]
    | some b => simp at h1
theorem eqIn_map {k e : TypeId} (ht : P.underlying t = some (.map k e)) (a b : Option Nat) (r : Bool) (h : (a.isNone = true ∧ r = b.isNone) ∨ (b.isNone = true ∧ r = a.isNone)) : (Op.equalIn (d + 1) t (.map a) (.map b)).run P w = .ok r w := by
  rcases h with ⟨h1, rfl⟩ | ⟨h1, rfl⟩
  · cases a with
    | none => simp [Op.equalIn, run_underlying ht]
    | some a => simp at h1
  · cases b with
    | none => cases a <;> simp [Op.equalIn, run_underlying ht]
    | some b => simp at h1
theorem eqIn_func {p q : Array TypeId} {v : Bool} (ht : P.underlying t = some (.func p q v)) (f : Fn) (a b : Array Value) :
    (Op.equalIn (d + 1) t .nilFunc .nilFunc).run P w = .ok true w ∧ (Op.equalIn (d + 1) t .nilFunc (.func f a b)).run P w = .ok false w ∧ (Op.equalIn (d + 1) t (.func f a b) .nilFunc).run P w = .ok false w := by
  refine ⟨?_, ?_, ?_⟩ <;> simp [Op.equalIn, run_underlying ht]
end

theorem run_nilCmp {t : TypeId} {d : TypeDesc} (ht : P.underlying t = some d) {x y : C} {x' y' : Value} (hx : CRel β x x') (hy : CRel β y y') {r : Bool} (h : nilCmp d x y = some r) (w : World) :
    (Op.equal t x' y').run P w = .ok r w ∧ (∀ op a b, (eqGuard op t a b x' y').run P w = .ok () w) ∧ binOp .eql t x' y' = (do pure (.bool (← Op.equal t x' y'))) ∧ binOp .neq t x' y' = (do pure (.bool (!(← Op.equal t x' y')))) := by
  have h' : (∃ q, refIsNil d x = some true ∧ refIsNil d y = some q ∧ r = q) ∨ (∃ q, refIsNil d x = some q ∧ refIsNil d y = some true ∧ r = q) := by
    unfold nilCmp at h
    split at h
    · rename_i h1 h2; simp only [Option.some.injEq] at h; exact .inl ⟨_, h1, h2, h.symm⟩
    · rename_i h1 h2; simp only [Option.some.injEq] at h; exact .inr ⟨_, h1, h2, h.symm⟩
    · cases h
  have key : ∀ p q, refIsNil d x = some p → refIsNil d y = some q → ((p = true ∧ r = q) ∨ (q = true ∧ r = p)) →
    (Op.equal t x' y').run P w = .ok r w ∧ (∀ op a b, (eqGuard op t a b x' y').run P w = .ok () w) ∧ binOp .eql t x' y' = (do pure (.bool (← Op.equal t x' y'))) ∧ binOp .neq t x' y' = (do pure (.bool (!(← Op.equal t x' y')))) := by
    intro p q h1 h2 hpq
    rcases refIsNil_rel hx h1 with ⟨e, a, rfl, rfl, rfl⟩ | ⟨e, a, n, c, rfl, rfl, rfl⟩ | ⟨k, e, a, rfl, rfl, rfl⟩ | ⟨pp, qq, vv, rfl, hxx⟩ <;>
      rcases refIsNil_rel hy h2 with ⟨e', a', he, rfl, rfl⟩ | ⟨e', a', n', c', he, rfl, rfl⟩ | ⟨k', e', a', he, rfl, rfl⟩ | ⟨pp', qq', vv', he, hyy⟩ <;> cases he
    · exact ⟨eqIn_ptr 9999 w ht _ _ _ hpq, fun op u v => by cases op <;> rfl, rfl, rfl⟩
    · exact ⟨eqIn_slice 9999 w ht _ _ _ _ _ _ _ hpq, fun op u v => by cases op <;> rfl, rfl, rfl⟩
    · exact ⟨eqIn_map 9999 w ht _ _ _ hpq, fun op u v => by cases op <;> rfl, rfl, rfl⟩
    · rcases hxx with ⟨rfl, rfl⟩ | ⟨⟨f, a, b, rfl⟩, rfl⟩ <;> rcases hyy with ⟨rfl, rfl⟩ | ⟨⟨f', a', b', rfl⟩, rfl⟩
      · have : r = true := by simpa using hpq
        subst this
        exact ⟨(eqIn_func 9999 w ht (.func 0) #[] #[]).1, fun op u v => by cases op <;> rfl, rfl, rfl⟩
      · have : r = false := by simpa using hpq
        subst this
        exact ⟨(eqIn_func 9999 w ht f' a' b').2.1, fun op u v => by cases op <;> rfl, rfl, rfl⟩
      · have : r = false := by simpa using hpq
        subst this
        exact ⟨(eqIn_func 9999 w ht f a b).2.2, fun op u v => by cases op <;> rfl, rfl, rfl⟩
      · simp at hpq
  rcases h' with ⟨q, h1, h2, rfl⟩ | ⟨q, h1, h2, rfl⟩
  · exact key _ _ h1 h2 (.inl ⟨rfl, rfl⟩)
  · exact key _ _ h1 h2 (.inr ⟨rfl, rfl⟩)
end Go.Am

namespace Go.Am
open Go

variable {cx : Cx} {P : Program} {B fl : Nat} {β : Be} {st : St} {w : World}

theorem map_sc_rel {e : Sem Value} {v : V} (h : (pureSem default 0 e).map sc = some v) : ∃ u, e = .pure u ∧ v = sc u := by
  simp only [Option.map_eq_some_iff] at h
  obtain ⟨u, hu, rfl⟩ := h
  exact ⟨u, pureSem_zero hu, rfl⟩

theorem run_guard_scal (op : BinOp) (t : TypeId) (a b : Operand) {x y : Value} (hx : ∀ c, x ≠ .agg c) (hn : x ≠ .nilIface) (w : World) : (eqGuard op t a b x y).run P w = .ok () w := by
  cases op <;> cases x <;> first | rfl | exact absurd rfl (hx _) | exact absurd rfl hn | (cases y <;> rfl)

theorem run_binop_int (op : BinOp) (t : TypeId) (k k' : IntKind) (x y : Int) (a b : Operand) {v : V} (hop : op ≠ .shl ∧ op ≠ .shr) (h : (bif decide (k = k') then
      (match op with
      | .add => some (sc (.int k (k.wrap (x + y))))
      | .sub => some (sc (.int k (k.wrap (x - y))))
      | .mul => some (sc (.int k (k.wrap (x * y))))
      | .eql => some (sc (.bool (x == y)))
      | .neq => some (sc (.bool (x != y)))
      | .lss => some (sc (.bool (x < y)))
      | .leq => some (sc (.bool (x ≤ y)))
      | .gtr => some (sc (.bool (x > y)))
      | .geq => some (sc (.bool (x ≥ y)))
      | .quo => (pureSem default 0 (Op.intDiv .quo k x y)).map sc
      | .rem => (pureSem default 0 (Op.intDiv .rem k x y)).map sc
      | op => (pureSem default 0 (Op.intBits op k x y)).map sc)
    else none) = some v) (w : World) : ∃ u, ((do eqGuard op t a b (.int k x) (.int k' y); binOp op t (.int k x) (.int k' y) : Sem Value)).run P w = .ok u w ∧ v = sc u := by
  have hg := run_guard_scal (P := P) op t a b (x := .int k x) (y := .int k' y) (fun c => by simp) (by simp) w
  cases hk : decide (k = k') with
  | false => rw [hk] at h; simp at h
  | true =>
    have hk' := of_decide_eq_true hk
    subst hk'
    rw [hk] at h
    simp only [cond_true] at h
    simp only [Sem.run_bind, hg, Result.andThen_ok]
    cases op <;> simp only at h <;> first
      | exact absurd rfl hop.1
      | exact absurd rfl hop.2
      | (simp only [Option.some.injEq] at h; subst h; exact ⟨_, by simp [binOp, Op.intArith, Op.intCmp], rfl⟩)
      | (obtain ⟨u, hu, rfl⟩ := map_sc_rel h; exact ⟨u, by simp [binOp, hu], rfl⟩)

theorem run_binop0 (hx : CxOk cx P) {op : BinOp} {t : TypeId} {x y v : V} {x' y' : Value} (hf : Facts cx β.env) (hxr : VRel β x x') (hyr : VRel β y y') (h : binop0 cx op t x y = some v) (a b : Operand) (w : World) :
    ∃ v', ((do eqGuard op t a b x' y'; binOp op t x' y' : Sem Value)).run P w = .ok v' w ∧ VRel β v v' := by
  unfold binop0 at h
  split at h
  · -- shl
    have e1 : x' = _ := hxr
    have e2 : y' = _ := hyr
    subst e1 e2
    obtain ⟨u, hu, rfl⟩ := map_sc_rel h
    exact ⟨u, by simp [eqGuard, binOp, hu], rfl⟩
  · have e1 : x' = _ := hxr
    have e2 : y' = _ := hyr
    subst e1 e2
    obtain ⟨u, hu, rfl⟩ := map_sc_rel h
    exact ⟨u, by simp [eqGuard, binOp, hu], rfl⟩
  · -- integers
    rename_i k p k' q hn1 hn2
    have e1 : x' = _ := hxr
    have e2 : y' = _ := hyr
    subst e1 e2
    obtain ⟨u, hu, rfl⟩ := run_binop_int (P := P) op t k k' p q a b ⟨hn1, hn2⟩ h w
    exact ⟨u, hu, rfl⟩
  · -- strings
    rename_i p q
    have e1 : x' = _ := hxr
    have e2 : y' = _ := hyr
    subst e1 e2
    obtain ⟨u, hu, rfl⟩ := map_sc_rel h
    have hg := run_guard_scal (P := P) op t a b (x := .string p) (y := .string q) (fun c => by simp) (by simp) w
    refine ⟨u, ?_, rfl⟩
    simp only [Sem.run_bind, hg, Result.andThen_ok]
    cases op <;> simp [binOp, hu]
  · -- bools
    rename_i p q
    have e1 : x' = _ := hxr
    have e2 : y' = _ := hyr
    subst e1 e2
    split at h
    · rename_i ty ht
      obtain ⟨i, z, hT⟩ := hx.is ht
      split at h
      · rename_i hu
        simp only [Option.some.injEq] at h; subst h
        refine ⟨_, ?_, rfl⟩
        have h2 : (Op.equal t (.bool p) (.bool q)).run P w = .ok (p == q) w := run_equalIn_bool w 9999 t _ _ (P := P) (by rw [hT.under, hu])
        simp [eqGuard, binOp, h2]
      · cases h
    · cases h
  · rename_i p q
    have e1 : x' = _ := hxr
    have e2 : y' = _ := hyr
    subst e1 e2
    split at h
    · rename_i ty ht
      obtain ⟨i, z, hT⟩ := hx.is ht
      split at h
      · rename_i hu
        simp only [Option.some.injEq] at h; subst h
        refine ⟨_, ?_, rfl⟩
        have h2 : (Op.equal t (.bool p) (.bool q)).run P w = .ok (p == q) w := run_equalIn_bool w 9999 t _ _ (P := P) (by rw [hT.under, hu])
        simp [eqGuard, binOp, h2]
      · cases h
    · cases h
  · -- one pointer
    rename_i i o j q
    cases hc : (Nat.beq i j && elemOk cx t) with
    | false => rw [hc] at h; simp at h
    | true =>
      rw [hc] at h
      simp only [cond_true, Option.some.injEq] at h; subst h
      simp only [Bool.and_eq_true] at hc
      have hij := Nat.eq_of_beq_eq_true hc.1
      subst hij
      obtain ⟨bb, e, hb, rfl⟩ := hxr
      obtain ⟨b2, e2, hb2, rfl⟩ := hyr
      rw [hb] at hb2; cases hb2
      have hok := hc.2
      unfold elemOk at hok
      split at hok
      · rename_i ty ht
        obtain ⟨i', z', hT⟩ := hx.is ht
        split at hok
        · rename_i el hu
          split at hok
          · rename_i ety het
            obtain ⟨i2, z2, hE⟩ := hx.is het
            have hne : ety.size ≠ 0 := fun e => by rw [e] at hok; simp at hok
            have heq : (Op.equal t (adr bb o) (adr bb q)).run P w = .ok (Nat.beq o q) w := by
              have : ∀ d, (Op.equalIn (d + 1) t (adr bb o) (adr bb q)).run P w = .ok (Nat.beq o q) w := fun d => by
                have hbq : ((⟨bb, o, none⟩ : Addr) == ⟨bb, q, none⟩) = Nat.beq o q := by
                  cases h : Nat.beq o q with
                  | true => have := Nat.eq_of_beq_eq_true h; subst this; simp
                  | false =>
                    have : o ≠ q := fun e => by subst e; rw [T.beq_true rfl] at h; cases h
                    simp [this]
                simp [Op.equalIn, hT.run_under, hu, adr, hE.run_size, hne, sameAddr]
                exact hbq
              exact this 9999
            refine ⟨_, ?_, rfl⟩
            have hg := run_guard_scal (P := P) .eql t a b (x := adr bb o) (y := adr bb q) (fun c => by simp [adr]) (by simp [adr]) w
            have h3 : binOp .eql t (adr bb o) (adr bb q) = (do pure (.bool (← Op.equal t (adr bb o) (adr bb q)))) := rfl
            simp only [Sem.run_bind, hg, Result.andThen_ok, h3, heq, Sem.run_pure]
          · cases hok
        · cases hok
      · cases hok
  · rename_i i o j q
    cases hc : (Nat.beq i j && elemOk cx t) with
    | false => rw [hc] at h; simp at h
    | true =>
      rw [hc] at h
      simp only [cond_true, Option.some.injEq] at h; subst h
      simp only [Bool.and_eq_true] at hc
      have hij := Nat.eq_of_beq_eq_true hc.1
      subst hij
      obtain ⟨bb, e, hb, rfl⟩ := hxr
      obtain ⟨b2, e2, hb2, rfl⟩ := hyr
      rw [hb] at hb2; cases hb2
      have hok := hc.2
      unfold elemOk at hok
      split at hok
      · rename_i ty ht
        obtain ⟨i', z', hT⟩ := hx.is ht
        split at hok
        · rename_i el hu
          split at hok
          · rename_i ety het
            obtain ⟨i2, z2, hE⟩ := hx.is het
            have hne : ety.size ≠ 0 := fun e => by rw [e] at hok; simp at hok
            have heq : (Op.equal t (adr bb o) (adr bb q)).run P w = .ok (Nat.beq o q) w := by
              have : ∀ d, (Op.equalIn (d + 1) t (adr bb o) (adr bb q)).run P w = .ok (Nat.beq o q) w := fun d => by
                have hbq : ((⟨bb, o, none⟩ : Addr) == ⟨bb, q, none⟩) = Nat.beq o q := by
                  cases h : Nat.beq o q with
                  | true => have := Nat.eq_of_beq_eq_true h; subst this; simp
                  | false =>
                    have : o ≠ q := fun e => by subst e; rw [T.beq_true rfl] at h; cases h
                    simp [this]
                simp [Op.equalIn, hT.run_under, hu, adr, hE.run_size, hne, sameAddr]
                exact hbq
              exact this 9999
            refine ⟨_, ?_, rfl⟩
            have hg := run_guard_scal (P := P) .neq t a b (x := adr bb o) (y := adr bb q) (fun c => by simp [adr]) (by simp [adr]) w
            have h3 : binOp .neq t (adr bb o) (adr bb q) = (do pure (.bool (!(← Op.equal t (adr bb o) (adr bb q))))) := rfl
            simp only [Sem.run_bind, hg, Result.andThen_ok, h3, heq, Sem.run_pure]
          · cases hok
        · cases hok
      · cases hok
  · -- nil
    split at h
    · rename_i ty ht
      obtain ⟨i, z, hT⟩ := hx.is ht
      simp only [Option.map_eq_some_iff] at h
      obtain ⟨r, hr, rfl⟩ := h
      obtain ⟨h1, h2, h3, h4⟩ := run_nilCmp hT.under hxr hyr hr w
      refine ⟨_, ?_, rfl⟩
      simp only [Sem.run_bind, h2, Result.andThen_ok, h3, h1, Sem.run_pure]
    · cases h
  · split at h
    · rename_i ty ht
      obtain ⟨i, z, hT⟩ := hx.is ht
      simp only [Option.map_eq_some_iff] at h
      obtain ⟨r, hr, rfl⟩ := h
      obtain ⟨h1, h2, h3, h4⟩ := run_nilCmp hT.under hxr hyr hr w
      refine ⟨_, ?_, rfl⟩
      simp only [Sem.run_bind, h2, Result.andThen_ok, h4, h1, Sem.run_pure]
    · cases h
  · -- aggregates
    rename_i l m
    cases he : cx.eqT t with
    | false => rw [he] at h; simp at h
    | true =>
      rw [he] at h
      simp only [cond_true, Option.map_eq_some_iff] at h
      obtain ⟨r, hr, rfl⟩ := h
      obtain ⟨s1, s2, s3⟩ := hx.eqs t he
      have hq := eqA_rel hx hf 8 9992 t (.agg l) (.agg m) x' y' r hxr hyr hr w
      obtain ⟨p, rfl, p1, p2⟩ := hxr
      obtain ⟨q, rfl, q1, q2⟩ := hyr
      refine ⟨_, ?_, rfl⟩
      simp only [Sem.run_bind, run_eqGuard_agg w .eql t a b p q s2, Result.andThen_ok, run_eql_struct]
      rw [hq]; rfl
  · rename_i l m
    cases he : cx.eqT t with
    | false => rw [he] at h; simp at h
    | true =>
      rw [he] at h
      simp only [cond_true, Option.map_eq_some_iff] at h
      obtain ⟨r, hr, rfl⟩ := h
      obtain ⟨s1, s2, s3⟩ := hx.eqs t he
      have hq := eqA_rel hx hf 8 9992 t (.agg l) (.agg m) x' y' r hxr hyr hr w
      obtain ⟨p, rfl, p1, p2⟩ := hxr
      obtain ⟨q, rfl, q1, q2⟩ := hyr
      refine ⟨_, ?_, rfl⟩
      simp only [Sem.run_bind, run_eqGuard_agg w .neq t a b p q s2, Result.andThen_ok, run_neq_struct]
      rw [hq]; rfl
  · cases h

theorem run_symbin {op : BinOp} {t : TypeId} {k k' : IntKind} {p q : E} {v : V} (hf : Facts cx β.env) (h : symbin cx op k p k' q = some v) (a b : Operand) (w : World) :
    ∃ v', ((do eqGuard op t a b (.int k (p.val β.env)) (.int k' (q.val β.env)); binOp op t (.int k (p.val β.env)) (.int k' (q.val β.env)) : Sem Value)).run P w = .ok v' w ∧ VRel β v v' := by
  have hg := run_guard_scal (P := P) op t a b (x := .int k (p.val β.env)) (y := .int k' (q.val β.env)) (fun c => by simp) (by simp) w
  unfold symbin at h
  cases hk : decide (k = k') with
  | false => rw [hk] at h; simp at h
  | true =>
    have hk' := of_decide_eq_true hk
    subst hk'
    rw [hk] at h
    simp only [cond_true] at h
    simp only [Sem.run_bind, hg, Result.andThen_ok]
    have key : ∀ (tt : Tst) (n : Bool), syB (ask cx tt) n = some v → VRel β v (.bool (bif n then !(tt.holds β.env) else tt.holds β.env)) := fun tt n hh => by
      unfold syB at hh
      simp only [Option.map_eq_some_iff] at hh
      obtain ⟨r, hr, rfl⟩ := hh
      rw [ask_holds hf hr]; rfl
    split at h
    · simp only [Option.some.injEq] at h; subst h; exact ⟨_, by simp [binOp, Op.intArith]; rfl, rfl⟩
    · simp only [Option.some.injEq] at h; subst h; exact ⟨_, by simp [binOp, Op.intArith]; rfl, rfl⟩
    · simp only [Option.some.injEq] at h; subst h; exact ⟨_, by simp [binOp, Op.intArith]; rfl, rfl⟩
    · exact ⟨_, by simp [binOp, Op.intCmp]; rfl, key _ _ h⟩
    · exact ⟨_, by simp [binOp, Op.intCmp]; rfl, key _ _ h⟩
    · refine ⟨.bool (decide (p.val β.env < q.val β.env)), by simp [binOp, Op.intCmp], ?_⟩
      have := key _ _ h
      simp only [Tst.holds, cond_true] at this
      have e : (!decide (q.val β.env ≤ p.val β.env)) = decide (p.val β.env < q.val β.env) := by rw [Bool.eq_iff_iff]; simp
      rw [e] at this; exact this
    · exact ⟨_, by simp [binOp, Op.intCmp]; rfl, key _ _ h⟩
    · refine ⟨.bool (decide (p.val β.env > q.val β.env)), by simp [binOp, Op.intCmp], ?_⟩
      have := key _ _ h
      simp only [Tst.holds, cond_true] at this
      have e : (!decide (p.val β.env ≤ q.val β.env)) = decide (p.val β.env > q.val β.env) := by rw [Bool.eq_iff_iff]; simp
      rw [e] at this; exact this
    · exact ⟨_, by simp [binOp, Op.intCmp]; rfl, key _ _ h⟩
    · split at h
      · rename_i hq
        have hne : q.val β.env ≠ 0 := by have := ask_holds hf hq; simpa [Tst.holds, E.val, E.vals] using this
        simp only [Option.some.injEq] at h; subst h
        exact ⟨.int k (k.wrap ((p.val β.env).tdiv (q.val β.env))), by simp [binOp, Op.intDiv, hne], rfl⟩
      · cases h
    · split at h
      case h_2 => cases h
      rename_i hq
      have hne : q.val β.env ≠ 0 := by have := ask_holds hf hq; simpa [Tst.holds, E.val, E.vals] using this
      have hrun : (binOp .rem t (.int k (p.val β.env)) (.int k (q.val β.env))).run P w = .ok (.int k ((p.val β.env).tmod (q.val β.env))) w := by simp [binOp, Op.intDiv, hne]
      split at h
      · rename_i bb n
        cases hb : Nat.ble n 64 with
        | true =>
          rw [hb] at h
          simp only [cond_true, Option.map_eq_some_iff] at h
          obtain ⟨r, hr, rfl⟩ := h
          have := askIs_holds hf hr
          refine ⟨_, hrun, ?_⟩
          have e : (p.val β.env).tmod (E.val β.env (.lit (.ofNat n))) = r := this
          rw [e]; rfl
        | false =>
          rw [hb] at h
          simp only [cond_false, Option.some.injEq] at h; subst h
          exact ⟨_, hrun, rfl⟩
      · simp only [Option.some.injEq] at h; subst h
        exact ⟨_, hrun, rfl⟩
    · cases h

theorem run_hiB {op : BinOp} {t : TypeId} {x y : V} {x' y' : Value} {r : Bool} (hxr : VRel β x x') (hyr : VRel β y y') (h : hiB op x y = some r) (a b : Operand) (w : World) :
    ((do eqGuard op t a b x' y'; binOp op t x' y' : Sem Value)).run P w = .ok (.bool r) w := by
  unfold hiB at h
  split at h
  case h_2 => cases h
  rename_i k lo k' n
  obtain ⟨z, rfl, hz⟩ := hxr
  have e1 : y' = .int k' n := hyr
  subst e1
  cases hc : (decide (k = k') && decide (n < (lo : Int))) with
  | false => rw [hc] at h; cases h
  | true =>
  rw [hc] at h
  simp only [cond_true] at h
  simp only [Bool.and_eq_true, decide_eq_true_eq] at hc
  obtain ⟨rfl, hn⟩ := hc
  have hg := run_guard_scal (P := P) op t a b (x := .int k z) (y := .int k n) (fun c => by simp) (by simp) w
  simp only [Sem.run_bind, hg, Result.andThen_ok]
  split at h <;> cases h <;> simp [binOp, Op.intCmp] <;> omega

theorem byteE_val (ρ : Env) (k : Nat) (o : E) (j : Nat) : (byteE k o j).val ρ = ρ.f (1000 + k) [o.val ρ + (j : Int)] := rfl

theorem bytesEqB_ok (hf : Facts cx β.env) {k : Nat} {o : E} : ∀ {s l : List UInt8} {j : Nat} {r : Bool}, (∀ (i : Nat) (b : UInt8), l[i]? = some b → (b.toNat : Int) = β.env.f (1000 + k) [o.val β.env + ((j + i : Nat) : Int)]) → l.length = s.length → bytesEqB cx k o s j = some r → (l == s) = r
  | [], [], _, _, _, _, h => by simp only [bytesEqB, Option.some.injEq] at h; subst h; rfl
  | [], _ :: _, _, _, _, hl, _ => by simp at hl
  | _ :: _, [], _, _, _, hl, _ => by simp at hl
  | b :: bs, c :: l, j, r, hb, hl, h => by
    simp only [bytesEqB] at h
    have hc : (c.toNat : Int) = β.env.f (1000 + k) [o.val β.env + (j : Int)] := by simpa using hb 0 c rfl
    have hq : ∀ {q : Bool}, ask cx (.eq (byteE k o j) (.lit (Int.ofNat b.toNat))) = some q → ((c.toNat : Int) == (b.toNat : Int)) = q := fun hq => by
      have := ask_holds hf hq
      simp only [Tst.holds, byteE_val] at this
      rw [hc]; exact this
    split at h
    · rename_i h1
      have e := hq h1
      have e' : c = b := UInt8.toNat_inj.1 (by have := eq_of_beq e; omega)
      have ih := bytesEqB_ok hf (s := bs) (l := l) (j := j + 1) (r := r) (fun i x hx => by have := hb (i + 1) x (by simpa using hx); rw [this]; congr 3; omega) (by simpa using hl) h
      rw [e', List.cons_beq_cons, ih]; simp
    · rename_i h1
      have e := hq h1
      have e' : c ≠ b := fun e2 => by rw [e2] at e; simp at e
      simp only [Option.some.injEq] at h; subst h
      simp [e']
    · cases h

theorem otEqB_ok (hf : Facts cx β.env) {k : Nat} {o n : E} {s l : List UInt8} {r : Bool} (hl : (l.length : Int) = n.val β.env) (hb : ∀ (j : Nat) (b : UInt8), l[j]? = some b → (b.toNat : Int) = β.env.f (1000 + k) [o.val β.env + (j : Int)]) (h : otEqB cx k o n s = some r) : (l == s) = r := by
  unfold otEqB at h
  split at h
  · rename_i h1
    have := ask_holds hf h1
    simp only [Tst.holds] at this
    have e : n.val β.env = (s.length : Int) := by simpa [E.val, E.vals] using this
    exact bytesEqB_ok hf (j := 0) (fun i b hi => by simpa using hb i b hi) (by omega) h
  · rename_i h1
    have := ask_holds hf h1
    simp only [Tst.holds] at this
    have e : n.val β.env ≠ (s.length : Int) := by simpa [E.val, E.vals] using this
    simp only [Option.some.injEq] at h; subst h
    have : l ≠ s := fun e2 => by subst e2; exact e hl.symm
    simp [this]
  · cases h

theorem run_otEq (hf : Facts cx β.env) {op : BinOp} {t : TypeId} {x y : V} {x' y' : Value} {r : Bool} (hxr : VRel β x x') (hyr : VRel β y y') (h : otEq cx op x y = some r) (a b : Operand) (w : World) :
    ((do eqGuard op t a b x' y'; binOp op t x' y' : Sem Value)).run P w = .ok (.bool r) w := by
  unfold otEq at h
  split at h
  case h_2 => cases h
  rename_i k o n s
  obtain ⟨l, rfl, hl, hb⟩ := hxr
  have e1 : y' = .string s := hyr
  subst e1
  have hg := run_guard_scal (P := P) op t a b (x := .string ⟨l.toArray⟩) (y := .string s) (fun c => by simp) (by simp) w
  simp only [Sem.run_bind, hg, Result.andThen_ok]
  have key : ∀ {q : Bool}, otEqB cx k o n s.data.toList = some q → ((⟨l.toArray⟩ : ByteArray).toList == s.toList) = q := fun hq => by
    rw [ByteArray.toList_mk, ByteArray.toList_eq]; exact otEqB_ok hf hl hb hq
  split at h
  · rw [binOp_string_eql, key h]; rfl
  · simp only [Option.map_eq_some_iff] at h
    obtain ⟨q, hq, rfl⟩ := h
    rw [binOp_string_neq, key hq]; rfl
  · cases h

theorem run_binop (hx : CxOk cx P) {op : BinOp} {t : TypeId} {x y v : V} {x' y' : Value} (hf : Facts cx β.env) (hxr : VRel β x x') (hyr : VRel β y y') (h : binop cx op t x y = some v) (a b : Operand) (w : World) :
    ∃ v', ((do eqGuard op t a b x' y'; binOp op t x' y' : Sem Value)).run P w = .ok v' w ∧ VRel β v v' := by
  unfold binop at h
  split at h
  · rename_i k p k' q hs
    unfold symV at hs
    split at hs
    · obtain ⟨rfl, rfl⟩ := symE_rel hxr hyr hs
      exact run_symbin hf h a b w
    · cases hs
  · split at h
    · rename_i r hr
      simp only [Option.some.injEq] at h; subst h
      exact ⟨_, run_hiB hxr hyr hr a b w, rfl⟩
    · split at h
      · rename_i r hr
        simp only [Option.some.injEq] at h; subst h
        exact ⟨_, run_otEq hf hxr hyr hr a b w, rfl⟩
      · exact run_binop0 hx hf hxr hyr h a b w

theorem run_unop {op : UnOp} {x v : V} {x' : Value} (hxr : VRel β x x') (h : unOp op x = some v) (w : World) : ∃ v', (Op.unary op x').run P w = .ok v' w ∧ VRel β v v' := by
  unfold unOp at h
  split at h
  · have e1 : x' = _ := hxr
    subst e1
    obtain ⟨u, hu, rfl⟩ := map_sc_rel h
    exact ⟨u, by rw [hu]; rfl, rfl⟩
  · have e1 : x' = _ := hxr
    subst e1
    split at h
    · simp only [Option.some.injEq] at h; subst h; exact ⟨_, rfl, rfl⟩
    · cases h
  · have e1 : x' = _ := hxr
    subst e1
    split at h
    · simp only [Option.some.injEq] at h; subst h; exact ⟨_, rfl, rfl⟩
    · cases h
  · cases h

theorem run_unsafeConv (hx : CxOk cx P) {src dst : TypeId} {sty dty : Ty} {si di : TypeInfo} {sz dz : Value} (hS : TyIs P src sty si sz) (hD : TyIs P dst dty di dz) {id off b e0 : Nat} (hb : β id = some (b, e0)) (hi : Inv cx B β st w)
    (h : unsafeConv cx st sty.under dty.under id off = true) : (convert src dst (adr b off)).run P w = .ok (adr b off) w := by
  unfold unsafeConv at h
  split at h
  · rename_i t l e fx h1 h2 h3
    obtain ⟨b', e', ob, hb', hh, cur, pre, rest, rfl, hcur, hrel, _, _, _⟩ := hi.live id _ h3
    rw [hb] at hb'; cases hb'
    split at h
    · rename_i ety het
      obtain ⟨i, z, hE⟩ := hx.is het
      simp only [Bool.and_eq_true, Bool.not_eq_true'] at h
      have hs0 : i.size ≠ 0 := by
        rw [hE.size]; intro e; rw [e] at h; simp at h
      have hlt : off < l.length := by simpa [Nat.blt, Nat.ble_eq, Nat.succ_le_iff] using h.2
      have hoff : off < cur.size := by
        rw [← Array.length_toList, hcur, List.length_append, ← hrel.length]; omega
      exact Lib.run_to_unsafe w ⟨b, off, none⟩ (by rw [hS.under, h1]) (by rw [hD.under, h2]) hE.info hs0 (cells := cur.size) (e := e) (by simp [World.shape?, hh]) hoff
    · cases h
  · rename_i u l e h1 h2 h3
    obtain ⟨b', e', ob, hb', hh, cur, pre, rest, rfl, hcur, hrel, _, hno, _⟩ := hi.live id _ h3
    rw [hb] at hb'; cases hb'
    split at h
    · rename_i uty hut
      obtain ⟨i, z, hE⟩ := hx.is hut
      simp only [Bool.and_eq_true, Bool.not_eq_true'] at h
      have c1 := Nat.eq_of_beq_eq_true h.1.1.1
      have c2 := Nat.eq_of_beq_eq_true h.1.1.2
      have c3 := Nat.eq_of_beq_eq_true h.1.2
      subst c1 c2
      have hs0 : uty.size ≠ 0 := fun e => by rw [e] at h; simp at h
      have hsz : cur.size = uty.size := by
        rw [← Array.length_toList, hcur, hno rfl, List.append_nil, ← hrel.length, c3]
      have hco : P.cellsOf e = uty.size := by simp [Program.cellsOf, hE.info, hE.size]
      have hdiv : cur.size / P.cellsOf e = 1 := by rw [hsz, hco]; exact Nat.div_self (Nat.pos_of_ne_zero hs0)
      refine Lib.run_from_unsafe w ⟨b, 0, none⟩ (by rw [hS.under, h1]) (by rw [hD.under, h2]) hE.info (cells := cur.size) (e := e) (by simp [World.shape?, hh]) ?_
      rw [hdiv]
      have hd : P.depth = (2 * (P.types.size + Made.depth) + 1) + 1 := rfl
      rw [hd]
      simp only [liesAt, Bool.or_eq_true]
      left
      rw [hd]
      simp [rowAt, hco, sameLayout, hs0]
    · cases h
  · cases h

theorem encN_ok (hf : Facts cx β.env) {e : E} {n : Nat} (h : encN cx e = some n) : (Utf8.encode (e.val β.env)).size = n := by
  have le1 : ∀ {a b : Int}, (isYes (ask cx (.le (.lit a) e)) && isYes (ask cx (.le e (.lit b)))) = true → a ≤ e.val β.env ∧ e.val β.env ≤ b := fun hc => by
    simp only [Bool.and_eq_true] at hc
    exact ⟨of_decide_eq_true (isYes_ask hf hc.1), of_decide_eq_true (isYes_ask hf hc.2)⟩
  generalize e.val β.env = x at le1 ⊢
  unfold encN at h
  have fin : ∀ c : Nat, (if Utf8.valid x then x.toNat else Utf8.runeError) = c → (Utf8.encode x).size = if c < 0x80 then 1 else if c < 0x800 then 2 else if c < 0x10000 then 3 else 4 := fun c hc => by
    unfold Utf8.encode
    simp only [hc]
    split
    · rfl
    · split
      · rfl
      · split <;> rfl
  cases c1 : (isYes (ask cx (.le (.lit 0) e)) && isYes (ask cx (.le e (.lit 127)))) with
  | true =>
    rw [c1] at h
    simp only [cond_true, Option.some.injEq] at h; subst h
    obtain ⟨h1, h2⟩ := le1 c1
    have hv : Utf8.valid x = true := by simp [Utf8.valid]; omega
    rw [fin x.toNat (by rw [hv]; rfl), if_pos (by omega)]
  | false =>
  rw [c1] at h
  simp only [cond_false] at h
  cases c2 : (isYes (ask cx (.le (.lit 128) e)) && isYes (ask cx (.le e (.lit 2047)))) with
  | true =>
    rw [c2] at h
    simp only [cond_true, Option.some.injEq] at h; subst h
    obtain ⟨h1, h2⟩ := le1 c2
    have hv : Utf8.valid x = true := by simp [Utf8.valid]; omega
    rw [fin x.toNat (by rw [hv]; rfl), if_neg (by omega), if_pos (by omega)]
  | false =>
  rw [c2] at h
  simp only [cond_false] at h
  cases c3 : (isYes (ask cx (.le (.lit 2048) e)) && isYes (ask cx (.le e (.lit 65535)))) with
  | true =>
    rw [c3] at h
    simp only [cond_true, Option.some.injEq] at h; subst h
    obtain ⟨h1, h2⟩ := le1 c3
    by_cases hv : Utf8.valid x = true
    · rw [fin x.toNat (by rw [hv]; rfl), if_neg (by omega), if_neg (by omega), if_pos (by omega)]
    · rw [fin Utf8.runeError (by rw [if_neg hv]), if_neg (by decide), if_neg (by decide), if_pos (by decide)]
  | false =>
  rw [c3] at h
  simp only [cond_false] at h
  cases c4 : (isYes (ask cx (.le (.lit 65536) e)) && isYes (ask cx (.le e (.lit 1114111)))) with
  | false => rw [c4] at h; cases h
  | true =>
    rw [c4] at h
    simp only [cond_true, Option.some.injEq] at h; subst h
    obtain ⟨h1, h2⟩ := le1 c4
    have hv : Utf8.valid x = true := by simp [Utf8.valid]; omega
    rw [fin x.toNat (by rw [hv]; rfl), if_neg (by omega), if_neg (by omega), if_neg (by omega)]

theorem run_conv (hx : CxOk cx P) {src dst : TypeId} {x v : V} {x' : Value} (hxr : VRel β x x') (hi : Inv cx B β st w) (h : convOp cx st src dst x = some v) : ∃ v', (convert src dst x').run P w = .ok v' w ∧ VRel β v v' := by
  unfold convOp at h
  split at h
  · rename_i sty dty k n hs hd
    obtain ⟨i, z, hS⟩ := hx.is hs
    obtain ⟨i', z', hD⟩ := hx.is hd
    have e1 : x' = _ := hxr
    subst e1
    split at h
    · rename_i k' hu
      simp only [Option.some.injEq] at h; subst h
      refine ⟨_, ?_, rfl⟩
      simp only [convert, Sem.run_bind, hS.run_under, hD.run_under, hu, Result.andThen_ok]
      cases sty.under <;> rfl
    · rename_i hu
      simp only [Option.some.injEq] at h; subst h
      refine ⟨_, ?_, rfl⟩
      simp only [convert, Sem.run_bind, hS.run_under, hD.run_under, hu, Result.andThen_ok]
      cases sty.under <;> rfl
    · cases h
  · rename_i sty dty k e hs hd
    obtain ⟨i, z, hS⟩ := hx.is hs
    obtain ⟨i', z', hD⟩ := hx.is hd
    have e1 : x' = _ := hxr
    subst e1
    split at h
    · rename_i k' hu
      simp only [Option.some.injEq] at h; subst h
      refine ⟨.int k' (k'.wrap (e.val β.env)), ?_, rfl⟩
      simp only [convert, Sem.run_bind, hS.run_under, hD.run_under, hu, Result.andThen_ok]
      cases sty.under <;> rfl
    · rename_i hu
      simp only [Option.map_eq_some_iff] at h
      obtain ⟨n, hn, rfl⟩ := h
      refine ⟨_, ?_, rfl, encN_ok hi.facts hn⟩
      simp only [convert, Sem.run_bind, hS.run_under, hD.run_under, hu, Result.andThen_ok]
      cases sty.under <;> rfl
    · cases h
  · rename_i sty dty s hs hd
    obtain ⟨i, z, hS⟩ := hx.is hs
    obtain ⟨i', z', hD⟩ := hx.is hd
    have e1 : x' = _ := hxr
    subst e1
    split at h
    · rename_i hu
      simp only [Option.some.injEq] at h; subst h
      refine ⟨_, ?_, rfl⟩
      simp only [convert, Sem.run_bind, hS.run_under, hD.run_under, hu, Result.andThen_ok]
      cases sty.under <;> rfl
    · cases h
  · rename_i sty dty k off len hs hd
    obtain ⟨i, z, hS⟩ := hx.is hs
    obtain ⟨i', z', hD⟩ := hx.is hd
    obtain ⟨l, rfl, hl, hb⟩ := hxr
    split at h
    · rename_i hu
      simp only [Option.some.injEq] at h; subst h
      refine ⟨_, ?_, l, rfl, hl, hb⟩
      simp only [convert, Sem.run_bind, hS.run_under, hD.run_under, hu, Result.andThen_ok]
      cases sty.under <;> rfl
    · cases h
  · rename_i sty dty k off len hs hd
    obtain ⟨i, z, hS⟩ := hx.is hs
    obtain ⟨i', z', hD⟩ := hx.is hd
    obtain ⟨l, rfl, hl, hb⟩ := hxr
    split at h
    · rename_i hu
      simp only [Option.some.injEq] at h; subst h
      refine ⟨_, ?_, l, rfl, hl, hb⟩
      simp only [convert, Sem.run_bind, hS.run_under, hD.run_under, hu, Result.andThen_ok]
      cases sty.under <;> rfl
    · cases h
  · rename_i sty dty id off hs hd
    obtain ⟨i, z, hS⟩ := hx.is hs
    obtain ⟨i', z', hD⟩ := hx.is hd
    cases hu : unsafeConv cx st sty.under dty.under id off with
    | false => rw [hu] at h; simp at h
    | true =>
      rw [hu] at h
      simp only [cond_true, Option.some.injEq] at h; subst h
      obtain ⟨b, e, hb, rfl⟩ := hxr
      exact ⟨_, run_unsafeConv hx hS hD hb hi hu, b, e, hb, rfl⟩
  · cases h
end Go.Am
