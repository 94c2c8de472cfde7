/- The abstract machine: operators and conversions as the model runs them. -/
import Derived.Test.YtbfonnoebbjenaaGreatDoorAmM
import Derived.Lib.Builder
namespace Go.Am
open Go

variable {cx : Cx} {P : Program} {B fl : Nat} {β : Be} {st : St} {w : World}

theorem map_sc_rel {e : Sem Value} {v : V} (h : (pureSem default 0 e).map sc = some v) : ∃ u, e = .pure u ∧ v = sc u := by
  simp only [Option.map_eq_some_iff] at h
  obtain ⟨u, hu, rfl⟩ := h
  exact ⟨u, pureSem_zero hu, rfl⟩

theorem run_guard_scal (op : BinOp) (t : TypeId) (a b : Operand) {x y : Value} (hx : ∀ c, x ≠ .agg c) (hn : x ≠ .nilIface) (w : World) : (eqGuard op t a b x y).run P w = .ok () w := by
  cases op <;> cases x <;> first | rfl | exact absurd rfl (hx _) | exact absurd rfl hn | (cases y <;> rfl)

theorem run_binop_int (op : BinOp) (t : TypeId) (k k' : IntKind) (x y : Int) (a b : Operand) {v : V} (hop : op ≠ .shl ∧ op ≠ .shr) (h : (bif decide (k = k') then
      (match op with
      | .add => some (sc (.int k (k.wrap (x + y))))
      | .sub => some (sc (.int k (k.wrap (x - y))))
      | .mul => some (sc (.int k (k.wrap (x * y))))
      | .eql => some (sc (.bool (x == y)))
      | .neq => some (sc (.bool (x != y)))
      | .lss => some (sc (.bool (x < y)))
      | .leq => some (sc (.bool (x ≤ y)))
      | .gtr => some (sc (.bool (x > y)))
      | .geq => some (sc (.bool (x ≥ y)))
      | .quo => (pureSem default 0 (Op.intDiv .quo k x y)).map sc
      | .rem => (pureSem default 0 (Op.intDiv .rem k x y)).map sc
      | op => (pureSem default 0 (Op.intBits op k x y)).map sc)
    else none) = some v) (w : World) : ∃ u, ((do eqGuard op t a b (.int k x) (.int k' y); binOp op t (.int k x) (.int k' y) : Sem Value)).run P w = .ok u w ∧ v = sc u := by
  have hg := run_guard_scal (P := P) op t a b (x := .int k x) (y := .int k' y) (fun c => by simp) (by simp) w
  cases hk : decide (k = k') with
  | false => rw [hk] at h; simp at h
  | true =>
    have hk' := of_decide_eq_true hk
    subst hk'
    rw [hk] at h
    simp only [cond_true] at h
    simp only [Sem.run_bind, hg, Result.andThen_ok]
    cases op <;> simp only at h <;> first
      | exact absurd rfl hop.1
      | exact absurd rfl hop.2
      | (simp only [Option.some.injEq] at h; subst h; exact ⟨_, by simp [binOp, Op.intArith, Op.intCmp], rfl⟩)
      | (obtain ⟨u, hu, rfl⟩ := map_sc_rel h; exact ⟨u, by simp [binOp, hu], rfl⟩)

theorem run_binop0 (hx : CxOk cx P) {op : BinOp} {t : TypeId} {x y v : V} {x' y' : Value} (hf : Facts cx β.env) (hxr : VRel β x x') (hyr : VRel β y y') (h : binop0 cx op t x y = some v) (a b : Operand) (w : World) :
    ∃ v', ((do eqGuard op t a b x' y'; binOp op t x' y' : Sem Value)).run P w = .ok v' w ∧ VRel β v v' := by
  unfold binop0 at h
  split at h
  · -- shl
    have e1 : x' = _ := hxr
    have e2 : y' = _ := hyr
    subst e1 e2
    obtain ⟨u, hu, rfl⟩ := map_sc_rel h
    exact ⟨u, by simp [eqGuard, binOp, hu], rfl⟩
  · have e1 : x' = _ := hxr
    have e2 : y' = _ := hyr
    subst e1 e2
    obtain ⟨u, hu, rfl⟩ := map_sc_rel h
    exact ⟨u, by simp [eqGuard, binOp, hu], rfl⟩
  · -- integers
    rename_i k p k' q hn1 hn2
    have e1 : x' = _ := hxr
    have e2 : y' = _ := hyr
    subst e1 e2
    obtain ⟨u, hu, rfl⟩ := run_binop_int (P := P) op t k k' p q a b ⟨hn1, hn2⟩ h w
    exact ⟨u, hu, rfl⟩
  · -- strings
    rename_i p q
    have e1 : x' = _ := hxr
    have e2 : y' = _ := hyr
    subst e1 e2
    obtain ⟨u, hu, rfl⟩ := map_sc_rel h
    have hg := run_guard_scal (P := P) op t a b (x := .string p) (y := .string q) (fun c => by simp) (by simp) w
    refine ⟨u, ?_, rfl⟩
    simp only [Sem.run_bind, hg, Result.andThen_ok]
    cases op <;> simp [binOp, hu]
  · -- bools
    rename_i p q
    have e1 : x' = _ := hxr
    have e2 : y' = _ := hyr
    subst e1 e2
    split at h
    · rename_i ty ht
      obtain ⟨i, z, hT⟩ := hx.is ht
      split at h
      · rename_i hu
        simp only [Option.some.injEq] at h; subst h
        refine ⟨_, ?_, rfl⟩
        have h2 : (Op.equal t (.bool p) (.bool q)).run P w = .ok (p == q) w := run_equalIn_bool w 9999 t _ _ (P := P) (by rw [hT.under, hu])
        simp [eqGuard, binOp, h2]
      · cases h
    · cases h
  · rename_i p q
    have e1 : x' = _ := hxr
    have e2 : y' = _ := hyr
    subst e1 e2
    split at h
    · rename_i ty ht
      obtain ⟨i, z, hT⟩ := hx.is ht
      split at h
      · rename_i hu
        simp only [Option.some.injEq] at h; subst h
        refine ⟨_, ?_, rfl⟩
        have h2 : (Op.equal t (.bool p) (.bool q)).run P w = .ok (p == q) w := run_equalIn_bool w 9999 t _ _ (P := P) (by rw [hT.under, hu])
        simp [eqGuard, binOp, h2]
      · cases h
    · cases h
  · -- one pointer
    rename_i i o j q
    cases hc : (Nat.beq i j && elemOk cx t) with
    | false => rw [hc] at h; simp at h
    | true =>
      rw [hc] at h
      simp only [cond_true, Option.some.injEq] at h; subst h
      simp only [Bool.and_eq_true] at hc
      have hij := Nat.eq_of_beq_eq_true hc.1
      subst hij
      obtain ⟨bb, e, hb, rfl⟩ := hxr
      obtain ⟨b2, e2, hb2, rfl⟩ := hyr
      rw [hb] at hb2; cases hb2
      have hok := hc.2
      unfold elemOk at hok
      split at hok
      · rename_i ty ht
        obtain ⟨i', z', hT⟩ := hx.is ht
        split at hok
        · rename_i el hu
          split at hok
          · rename_i ety het
            obtain ⟨i2, z2, hE⟩ := hx.is het
            have hne : ety.size ≠ 0 := fun e => by rw [e] at hok; simp at hok
            have heq : (Op.equal t (adr bb o) (adr bb q)).run P w = .ok (Nat.beq o q) w := by
              have : ∀ d, (Op.equalIn (d + 1) t (adr bb o) (adr bb q)).run P w = .ok (Nat.beq o q) w := fun d => by
                have hbq : ((⟨bb, o, none⟩ : Addr) == ⟨bb, q, none⟩) = Nat.beq o q := by
                  cases h : Nat.beq o q with
                  | true => have := Nat.eq_of_beq_eq_true h; subst this; simp
                  | false =>
                    have : o ≠ q := fun e => by subst e; rw [T.beq_true rfl] at h; cases h
                    simp [this]
                simp [Op.equalIn, hT.run_under, hu, adr, hE.run_size, hne, sameAddr]
                exact hbq
              exact this 9999
            refine ⟨_, ?_, rfl⟩
            have hg := run_guard_scal (P := P) .eql t a b (x := adr bb o) (y := adr bb q) (fun c => by simp [adr]) (by simp [adr]) w
            have h3 : binOp .eql t (adr bb o) (adr bb q) = (do pure (.bool (← Op.equal t (adr bb o) (adr bb q)))) := rfl
            simp only [Sem.run_bind, hg, Result.andThen_ok, h3, heq, Sem.run_pure]
          · cases hok
        · cases hok
      · cases hok
  · rename_i i o j q
    cases hc : (Nat.beq i j && elemOk cx t) with
    | false => rw [hc] at h; simp at h
    | true =>
      rw [hc] at h
      simp only [cond_true, Option.some.injEq] at h; subst h
      simp only [Bool.and_eq_true] at hc
      have hij := Nat.eq_of_beq_eq_true hc.1
      subst hij
      obtain ⟨bb, e, hb, rfl⟩ := hxr
      obtain ⟨b2, e2, hb2, rfl⟩ := hyr
      rw [hb] at hb2; cases hb2
      have hok := hc.2
      unfold elemOk at hok
      split at hok
      · rename_i ty ht
        obtain ⟨i', z', hT⟩ := hx.is ht
        split at hok
        · rename_i el hu
          split at hok
          · rename_i ety het
            obtain ⟨i2, z2, hE⟩ := hx.is het
            have hne : ety.size ≠ 0 := fun e => by rw [e] at hok; simp at hok
            have heq : (Op.equal t (adr bb o) (adr bb q)).run P w = .ok (Nat.beq o q) w := by
              have : ∀ d, (Op.equalIn (d + 1) t (adr bb o) (adr bb q)).run P w = .ok (Nat.beq o q) w := fun d => by
                have hbq : ((⟨bb, o, none⟩ : Addr) == ⟨bb, q, none⟩) = Nat.beq o q := by
                  cases h : Nat.beq o q with
                  | true => have := Nat.eq_of_beq_eq_true h; subst this; simp
                  | false =>
                    have : o ≠ q := fun e => by subst e; rw [T.beq_true rfl] at h; cases h
                    simp [this]
                simp [Op.equalIn, hT.run_under, hu, adr, hE.run_size, hne, sameAddr]
                exact hbq
              exact this 9999
            refine ⟨_, ?_, rfl⟩
            have hg := run_guard_scal (P := P) .neq t a b (x := adr bb o) (y := adr bb q) (fun c => by simp [adr]) (by simp [adr]) w
            have h3 : binOp .neq t (adr bb o) (adr bb q) = (do pure (.bool (!(← Op.equal t (adr bb o) (adr bb q))))) := rfl
            simp only [Sem.run_bind, hg, Result.andThen_ok, h3, heq, Sem.run_pure]
          · cases hok
        · cases hok
      · cases hok
  · -- nil
    split at h
    · rename_i ty ht
      obtain ⟨i, z, hT⟩ := hx.is ht
      simp only [Option.map_eq_some_iff] at h
      obtain ⟨r, hr, rfl⟩ := h
      obtain ⟨h1, h2, h3, h4⟩ := run_nilCmp hT.under hxr hyr hr w
      refine ⟨_, ?_, rfl⟩
      simp only [Sem.run_bind, h2, Result.andThen_ok, h3, h1, Sem.run_pure]
    · cases h
  · split at h
    · rename_i ty ht
      obtain ⟨i, z, hT⟩ := hx.is ht
      simp only [Option.map_eq_some_iff] at h
      obtain ⟨r, hr, rfl⟩ := h
      obtain ⟨h1, h2, h3, h4⟩ := run_nilCmp hT.under hxr hyr hr w
      refine ⟨_, ?_, rfl⟩
      simp only [Sem.run_bind, h2, Result.andThen_ok, h4, h1, Sem.run_pure]
    · cases h
  · -- aggregates
    rename_i l m
    cases he : cx.eqT t with
    | false => rw [he] at h; simp at h
    | true =>
      rw [he] at h
      simp only [cond_true, Option.map_eq_some_iff] at h
      obtain ⟨r, hr, rfl⟩ := h
      obtain ⟨s1, s2, s3⟩ := hx.eqs t he
      have hq := eqA_rel hx hf 8 9992 t (.agg l) (.agg m) x' y' r hxr hyr hr w
      obtain ⟨p, rfl, p1, p2⟩ := hxr
      obtain ⟨q, rfl, q1, q2⟩ := hyr
      refine ⟨_, ?_, rfl⟩
      simp only [Sem.run_bind, run_eqGuard_agg w .eql t a b p q s2, Result.andThen_ok, run_eql_struct]
      rw [hq]; rfl
  · rename_i l m
    cases he : cx.eqT t with
    | false => rw [he] at h; simp at h
    | true =>
      rw [he] at h
      simp only [cond_true, Option.map_eq_some_iff] at h
      obtain ⟨r, hr, rfl⟩ := h
      obtain ⟨s1, s2, s3⟩ := hx.eqs t he
      have hq := eqA_rel hx hf 8 9992 t (.agg l) (.agg m) x' y' r hxr hyr hr w
      obtain ⟨p, rfl, p1, p2⟩ := hxr
      obtain ⟨q, rfl, q1, q2⟩ := hyr
      refine ⟨_, ?_, rfl⟩
      simp only [Sem.run_bind, run_eqGuard_agg w .neq t a b p q s2, Result.andThen_ok, run_neq_struct]
      rw [hq]; rfl
  · cases h

theorem run_symbin {op : BinOp} {t : TypeId} {k k' : IntKind} {p q : E} {v : V} (hf : Facts cx β.env) (h : symbin cx op k p k' q = some v) (a b : Operand) (w : World) :
    ∃ v', ((do eqGuard op t a b (.int k (p.val β.env)) (.int k' (q.val β.env)); binOp op t (.int k (p.val β.env)) (.int k' (q.val β.env)) : Sem Value)).run P w = .ok v' w ∧ VRel β v v' := by
  have hg := run_guard_scal (P := P) op t a b (x := .int k (p.val β.env)) (y := .int k' (q.val β.env)) (fun c => by simp) (by simp) w
  unfold symbin at h
  cases hk : decide (k = k') with
  | false => rw [hk] at h; simp at h
  | true =>
    have hk' := of_decide_eq_true hk
    subst hk'
    rw [hk] at h
    simp only [cond_true] at h
    simp only [Sem.run_bind, hg, Result.andThen_ok]
    have key : ∀ (tt : Tst) (n : Bool), syB (ask cx tt) n = some v → VRel β v (.bool (bif n then !(tt.holds β.env) else tt.holds β.env)) := fun tt n hh => by
      unfold syB at hh
      simp only [Option.map_eq_some_iff] at hh
      obtain ⟨r, hr, rfl⟩ := hh
      rw [ask_holds hf hr]; rfl
    split at h
    · simp only [Option.some.injEq] at h; subst h; exact ⟨_, by simp [binOp, Op.intArith]; rfl, rfl⟩
    · simp only [Option.some.injEq] at h; subst h; exact ⟨_, by simp [binOp, Op.intArith]; rfl, rfl⟩
    · simp only [Option.some.injEq] at h; subst h; exact ⟨_, by simp [binOp, Op.intArith]; rfl, rfl⟩
    · exact ⟨_, by simp [binOp, Op.intCmp]; rfl, key _ _ h⟩
    · exact ⟨_, by simp [binOp, Op.intCmp]; rfl, key _ _ h⟩
    · refine ⟨.bool (decide (p.val β.env < q.val β.env)), by simp [binOp, Op.intCmp], ?_⟩
      have := key _ _ h
      simp only [Tst.holds, cond_true] at this
      have e : (!decide (q.val β.env ≤ p.val β.env)) = decide (p.val β.env < q.val β.env) := by rw [Bool.eq_iff_iff]; simp
      rw [e] at this; exact this
    · exact ⟨_, by simp [binOp, Op.intCmp]; rfl, key _ _ h⟩
    · refine ⟨.bool (decide (p.val β.env > q.val β.env)), by simp [binOp, Op.intCmp], ?_⟩
      have := key _ _ h
      simp only [Tst.holds, cond_true] at this
      have e : (!decide (p.val β.env ≤ q.val β.env)) = decide (p.val β.env > q.val β.env) := by rw [Bool.eq_iff_iff]; simp
      rw [e] at this; exact this
    · exact ⟨_, by simp [binOp, Op.intCmp]; rfl, key _ _ h⟩
    · split at h
      · rename_i hq
        have hne : q.val β.env ≠ 0 := by have := ask_holds hf hq; simpa [Tst.holds, E.val, E.vals] using this
        simp only [Option.some.injEq] at h; subst h
        exact ⟨.int k (k.wrap ((p.val β.env).tdiv (q.val β.env))), by simp [binOp, Op.intDiv, hne], rfl⟩
      · cases h
    · split at h
      case h_2 => cases h
      rename_i hq
      have hne : q.val β.env ≠ 0 := by have := ask_holds hf hq; simpa [Tst.holds, E.val, E.vals] using this
      have hrun : (binOp .rem t (.int k (p.val β.env)) (.int k (q.val β.env))).run P w = .ok (.int k ((p.val β.env).tmod (q.val β.env))) w := by simp [binOp, Op.intDiv, hne]
      split at h
      · rename_i bb n
        cases hb : Nat.ble n 64 with
        | true =>
          rw [hb] at h
          simp only [cond_true, Option.map_eq_some_iff] at h
          obtain ⟨r, hr, rfl⟩ := h
          have := askIs_holds hf hr
          refine ⟨_, hrun, ?_⟩
          have e : (p.val β.env).tmod (E.val β.env (.lit (.ofNat n))) = r := this
          rw [e]; rfl
        | false =>
          rw [hb] at h
          simp only [cond_false, Option.some.injEq] at h; subst h
          exact ⟨_, hrun, rfl⟩
      · simp only [Option.some.injEq] at h; subst h
        exact ⟨_, hrun, rfl⟩
    · cases h

theorem run_binop (hx : CxOk cx P) {op : BinOp} {t : TypeId} {x y v : V} {x' y' : Value} (hf : Facts cx β.env) (hxr : VRel β x x') (hyr : VRel β y y') (h : binop cx op t x y = some v) (a b : Operand) (w : World) :
    ∃ v', ((do eqGuard op t a b x' y'; binOp op t x' y' : Sem Value)).run P w = .ok v' w ∧ VRel β v v' := by
  unfold binop at h
  split at h
  · rename_i k p k' q hs
    unfold symV at hs
    split at hs
    · obtain ⟨rfl, rfl⟩ := symE_rel hxr hyr hs
      exact run_symbin hf h a b w
    · cases hs
  · exact run_binop0 hx hf hxr hyr h a b w

theorem run_unop {op : UnOp} {x v : V} {x' : Value} (hxr : VRel β x x') (h : unOp op x = some v) (w : World) : ∃ v', (Op.unary op x').run P w = .ok v' w ∧ VRel β v v' := by
  unfold unOp at h
  split at h
  · have e1 : x' = _ := hxr
    subst e1
    obtain ⟨u, hu, rfl⟩ := map_sc_rel h
    exact ⟨u, by rw [hu]; rfl, rfl⟩
  · have e1 : x' = _ := hxr
    subst e1
    split at h
    · simp only [Option.some.injEq] at h; subst h; exact ⟨_, rfl, rfl⟩
    · cases h
  · cases h

theorem run_unsafeConv (hx : CxOk cx P) {src dst : TypeId} {sty dty : Ty} {si di : TypeInfo} {sz dz : Value} (hS : TyIs P src sty si sz) (hD : TyIs P dst dty di dz) {id off b e0 : Nat} (hb : β id = some (b, e0)) (hi : Inv cx B β st w)
    (h : unsafeConv cx st sty.under dty.under id off = true) : (convert src dst (adr b off)).run P w = .ok (adr b off) w := by
  unfold unsafeConv at h
  split at h
  · rename_i t l e fx h1 h2 h3
    obtain ⟨b', e', ob, hb', hh, cur, pre, rest, rfl, hcur, hrel, _, _, _⟩ := hi.live id _ h3
    rw [hb] at hb'; cases hb'
    split at h
    · rename_i ety het
      obtain ⟨i, z, hE⟩ := hx.is het
      simp only [Bool.and_eq_true, Bool.not_eq_true'] at h
      have hs0 : i.size ≠ 0 := by
        rw [hE.size]; intro e; rw [e] at h; simp at h
      have hlt : off < l.length := by simpa [Nat.blt, Nat.ble_eq, Nat.succ_le_iff] using h.2
      have hoff : off < cur.size := by
        rw [← Array.length_toList, hcur, List.length_append, ← hrel.length]; omega
      exact Lib.run_to_unsafe w ⟨b, off, none⟩ (by rw [hS.under, h1]) (by rw [hD.under, h2]) hE.info hs0 (cells := cur.size) (e := e) (by simp [World.shape?, hh]) hoff
    · cases h
  · rename_i u l e h1 h2 h3
    obtain ⟨b', e', ob, hb', hh, cur, pre, rest, rfl, hcur, hrel, _, hno, _⟩ := hi.live id _ h3
    rw [hb] at hb'; cases hb'
    split at h
    · rename_i uty hut
      obtain ⟨i, z, hE⟩ := hx.is hut
      simp only [Bool.and_eq_true, Bool.not_eq_true'] at h
      have c1 := Nat.eq_of_beq_eq_true h.1.1.1
      have c2 := Nat.eq_of_beq_eq_true h.1.1.2
      have c3 := Nat.eq_of_beq_eq_true h.1.2
      subst c1 c2
      have hs0 : uty.size ≠ 0 := fun e => by rw [e] at h; simp at h
      have hsz : cur.size = uty.size := by
        rw [← Array.length_toList, hcur, hno rfl, List.append_nil, ← hrel.length, c3]
      have hco : P.cellsOf e = uty.size := by simp [Program.cellsOf, hE.info, hE.size]
      have hdiv : cur.size / P.cellsOf e = 1 := by rw [hsz, hco]; exact Nat.div_self (Nat.pos_of_ne_zero hs0)
      refine Lib.run_from_unsafe w ⟨b, 0, none⟩ (by rw [hS.under, h1]) (by rw [hD.under, h2]) hE.info (cells := cur.size) (e := e) (by simp [World.shape?, hh]) ?_
      rw [hdiv]
      have hd : P.depth = (2 * (P.types.size + Made.depth) + 1) + 1 := rfl
      rw [hd]
      simp only [liesAt, Bool.or_eq_true]
      left
      rw [hd]
      simp [rowAt, hco, sameLayout, hs0]
    · cases h
  · cases h

theorem run_conv (hx : CxOk cx P) {src dst : TypeId} {x v : V} {x' : Value} (hxr : VRel β x x') (hi : Inv cx B β st w) (h : convOp cx st src dst x = some v) : ∃ v', (convert src dst x').run P w = .ok v' w ∧ VRel β v v' := by
  unfold convOp at h
  split at h
  · rename_i sty dty k n hs hd
    obtain ⟨i, z, hS⟩ := hx.is hs
    obtain ⟨i', z', hD⟩ := hx.is hd
    have e1 : x' = _ := hxr
    subst e1
    split at h
    · rename_i k' hu
      simp only [Option.some.injEq] at h; subst h
      refine ⟨_, ?_, rfl⟩
      simp only [convert, Sem.run_bind, hS.run_under, hD.run_under, hu, Result.andThen_ok]
      cases sty.under <;> rfl
    · cases h
  · rename_i sty dty k e hs hd
    obtain ⟨i, z, hS⟩ := hx.is hs
    obtain ⟨i', z', hD⟩ := hx.is hd
    have e1 : x' = _ := hxr
    subst e1
    split at h
    · rename_i k' hu
      simp only [Option.some.injEq] at h; subst h
      refine ⟨.int k' (k'.wrap (e.val β.env)), ?_, rfl⟩
      simp only [convert, Sem.run_bind, hS.run_under, hD.run_under, hu, Result.andThen_ok]
      cases sty.under <;> rfl
    · cases h
  · rename_i sty dty s hs hd
    obtain ⟨i, z, hS⟩ := hx.is hs
    obtain ⟨i', z', hD⟩ := hx.is hd
    have e1 : x' = _ := hxr
    subst e1
    split at h
    · rename_i hu
      simp only [Option.some.injEq] at h; subst h
      refine ⟨_, ?_, rfl⟩
      simp only [convert, Sem.run_bind, hS.run_under, hD.run_under, hu, Result.andThen_ok]
      cases sty.under <;> rfl
    · cases h
  · rename_i sty dty id off hs hd
    obtain ⟨i, z, hS⟩ := hx.is hs
    obtain ⟨i', z', hD⟩ := hx.is hd
    cases hu : unsafeConv cx st sty.under dty.under id off with
    | false => rw [hu] at h; simp at h
    | true =>
      rw [hu] at h
      simp only [cond_true, Option.some.injEq] at h; subst h
      obtain ⟨b, e, hb, rfl⟩ := hxr
      exact ⟨_, run_unsafeConv hx hS hD hb hi hu, b, e, hb, rfl⟩
  · cases h
end Go.Am
