/- The abstract machine: a region's operations in their order; the code. -/
import Derived.Test.YtbfonnoebbjenaaGreatDoorAmR
import Derived.LoopN
namespace Go.Am
open Go

variable {cx : Cx} {P : Program} {B fl : Nat} {β : Be} {st : St} {w : World}

/-- The guard's place is what the frame says it is. -/
def GuardOk (β : Be) (ops : List Oper) (o : Oper) (fr : Fr) (a : Act) : Prop :=
  ∀ j want oj d v, o.guard = some (j, want) → ops[j]? = some oj → oj.dst = some d → fr.get d = some v → VRel β v (a.tmps.getD d undef)

theorem wanted_ok {ops : Array Oper} {o : Oper} {fr : Fr} {a : Act} {b : Bool} (h : wantedA ops.toList o fr = some b) (hg : GuardOk β ops.toList o fr a) : Region.wanted o (yielded ops a.tmps) = b := by
  unfold wantedA at h
  unfold Region.wanted
  split at h
  · rename_i hn
    simp only [Option.some.injEq] at h; subst h
    rw [hn]
  · rename_i j want hs
    split at h
    case h_2 => cases h
    rename_i oj hj
    split at h
    case h_2 => cases h
    rename_i d hd
    have hj' : ops[j]? = some oj := by simpa using hj
    rw [hs]
    split at h
    · rename_i c hc
      simp only [Option.some.injEq] at h; subst h
      have hv : a.tmps.getD d undef = .bool c := hg j want oj d _ hs hj hd hc
      have hy : yielded ops a.tmps j = some c := by
        unfold yielded
        rw [hj']
        simp only [Option.bind_some, hd]
        rw [Array.getD_eq_getD_getElem?] at hv
        cases ht : a.tmps[d]? with
        | none => rw [ht] at hv; cases hv
        | some x => rw [ht] at hv; simp only [Option.getD_some] at hv; subst hv; rfl
      simp only [hy]
      rfl
    · rename_i l hc
      simp only [Option.some.injEq] at h; subst h
      have hv : a.tmps.getD d undef = .tuple l := hg j want oj d _ hs hj hd hc
      have hy : yielded ops a.tmps j = none := by
        unfold yielded
        rw [hj']
        simp only [Option.bind_some, hd]
        rw [Array.getD_eq_getD_getElem?] at hv
        cases ht : a.tmps[d]? with
        | none => rfl
        | some x => rw [ht] at hv; simp only [Option.getD_some] at hv; subst hv; rfl
      simp only [hy]
      rfl
    · cases h

/-- What one operation leaves behind. -/
def OpPost (cx : Cx) (B fl : Nat) (β : Be) (st : St) (w : World) (o : Oper) (fr : Fr) (a : Act) (K : Fr → St → Bool) : Act → World → Prop :=
  fun a' w' => ∃ v v' st' β', a' = a.put o.dst v' ∧ VRel β' v v' ∧ Good cx B fl β st w β' st' w' ∧ (putK fr o.dst v fun fr => K fr st') = true

theorem runOp_ok (hx : CxOk cx P) (hp : PrimsOk cx P B) {R : RunT} (hR : CodeOk cx P B R) {ops : Array Oper} {i : Nat} {o : Oper} (ho : ops[i]? = some o) {fr : Fr} {a : Act} {K : Fr → St → Bool}
    (hk : runOp cx R fl ops.toList o fr st K = true) (hfl : fl ≤ st.next) (h : Inv cx B β st w) (he : EvOk β fr a o.op.operands.toList) (hg : GuardOk β ops.toList o fr a) (Q : Exit → Act → World → Prop) :
    wpOp P ops Q i (OpPost cx B fl β st w o fr a K) a w := by
  unfold runOp at hk
  unfold wpOp
  simp only [ho]
  split at hk
  · cases hk
  · rename_i hw
    rw [wanted_ok hw hg]
    simp only [Bool.false_eq_true, if_false]
    exact ⟨undefV, undef, st, β, rfl, rfl, Good.refl h, hk⟩
  · rename_i hw
    rw [wanted_ok hw hg]
    simp only [if_true]
    refine .inl ?_
    have hs := step_ok (fl := fl) hx h hfl o he
    unfold Oper.wp
    split at hk
    · rename_i v st' hv
      rw [hv] at hs
      obtain ⟨v', β', w', q1, q2, q3⟩ := hs
      rw [q1]
      exact ⟨v, v', st', β', rfl, q2, q3, hk⟩
    · rename_i st' hv
      rw [hv] at hs
      obtain ⟨β', w', q1, q3⟩ := hs
      rw [q1]
      exact ⟨undefV, undef, st', β', rfl, rfl, q3, hk⟩
    · rename_i f args hv
      rw [hv] at hs
      obtain ⟨args', q1, q2⟩ := hs
      rw [q2]
      rcases callF_ok hx hp hR hk hfl h q1 with ⟨v', w', r1, v, st', β', r2, r3, r4⟩ | ⟨r1, r2⟩
      · rw [r1]
        exact ⟨v, v', st', β', rfl, r3, r4, r2⟩
      · rw [r1]
        refine r2.mono ?_
        rintro e w' ⟨v', rfl, v, st', β', s2, s3, s4⟩
        exact ⟨v, v', st', β', rfl, s3, s4, s2⟩
    · rename_i l hv
      rw [hv] at hs
      obtain ⟨v, st', hm, v', β', w', q1, q2, q3⟩ := hs
      rw [q1]
      have : ∀ l : List (V × St), allK (fun v st => putK fr o.dst v fun fr => K fr st) l = true → (v, st') ∈ l → (putK fr o.dst v fun fr => K fr st') = true := by
        intro l
        induction l with
        | nil => intro _ hm; cases hm
        | cons x l ih =>
          obtain ⟨xv, xs⟩ := x
          intro hl hm
          simp only [allK, Bool.and_eq_true] at hl
          rcases List.mem_cons.1 hm with he | he
          · cases he; exact hl.1
          · exact ih hl.2 he
      exact ⟨v, v', st', β', rfl, q2, q3, this l hk hm⟩
    · cases hk

theorem putK_some {fr : Fr} {d : Option Tmp} {v : V} {K : Fr → Bool} (h : putK fr d v K = true) : ∃ fr', fr.put d v = some fr' ∧ K fr' = true := by
  unfold putK at h
  split at h
  · rename_i fr' hf; exact ⟨fr', hf, h⟩
  · cases h

theorem put_defers (a : Act) (d : Option Tmp) (v : Value) : (a.put d v).defers = a.defers := by cases d <;> rfl

theorem guard_of {fr : Fr} {a : Act} (hf : FrRel β fr a) (ops : List Oper) (o : Oper) : GuardOk β ops o fr a := fun _ _ _ d v _ _ _ hv => hf.val d v hv

theorem runOps_ok (hx : CxOk cx P) (hp : PrimsOk cx P B) {R : RunT} (hR : CodeOk cx P B R) {ops : Array Oper} {K : Exit → Fr → St → Bool} : ∀ (l : List Oper) (is : List Nat), All2 (fun o i => ops[i]? = some o) l is →
    ∀ (fr : Fr) (st : St) (β : Be) (a : Act) (w : World), runOps cx R fl ops.toList l fr st (K .normal) = true → fl ≤ st.next → Inv cx B β st w → FrRel β fr a → a.defers = [] →
    wpOps P ops (Post cx B fl β st w K) is a w
  | [], [], _, fr, st, β, a, w, hk, _, h, hf, hd => ⟨fr, st, β, hk, Good.refl h, hf, hd⟩
  | [], _ :: _, h, _, _, _, _, _, _, _, _, _, _ => h.elim
  | _ :: _, [], h, _, _, _, _, _, _, _, _, _, _ => h.elim
  | o :: l, i :: is, hl, fr, st, β, a, w, hk, hfl, h, hf, hd => by
    rw [wpOps_cons]
    simp only [runOps] at hk
    refine wpOp_mono ?_ (runOp_ok hx hp hR hl.1 hk hfl h (EvOk.of hf _) (guard_of hf _ _) _)
    rintro a' w' ⟨v, v', st', β', rfl, q2, q3, q4⟩
    obtain ⟨fr', hfr, hk'⟩ := putK_some q4
    have := runOps_ok hx hp hR l is hl.2 fr' st' β' (a.put o.dst v') w' hk' (Nat.le_trans hfl q3.next) q3.inv ((hf.mono q3.ext).put q2 hfr) (by rw [put_defers]; exact hd)
    have mono : ∀ (l : List Nat) (a : Act) (w2 : World), wpOps P ops (Post cx B fl β' st' w' K) l a w2 → wpOps P ops (Post cx B fl β st w K) l a w2 := by
      have hQ : ∀ e a w2, Post cx B fl β' st' w' K e a w2 → Post cx B fl β st w K e a w2 := fun e a w2 => Post.trans q3
      have upon : ∀ (o : Oper) (a : Act) (w2 : World) (N N' : Act → World → Prop), (∀ a w, N a w → N' a w) → o.wp P a w2 N (Post cx B fl β' st' w' K) → o.wp P a w2 N' (Post cx B fl β st w K) := by
        intro o a w2 N N' hN hh
        unfold Oper.wp at *
        generalize (execOp a.eval o).run P w2 = r at *
        cases r with
        | ok n w' =>
          cases n <;> simp only [Oper.upon] at hh ⊢ <;>
            first
              | exact hN _ _ hh
              | exact Calls.mono hh (fun e w'' he => by cases e <;> first | exact hN _ _ he | exact hQ _ _ _ he | exact ⟨he.choose, he.choose_spec.choose, hQ _ _ _ he.choose_spec.choose_spec⟩)
              | exact Rows.mono hh (fun _ _ he => hN _ _ he)
        | halt x w' => cases x <;> simp only [Oper.upon] at hh ⊢ <;> first | exact hQ _ _ _ hh | exact hh
      intro l
      induction l with
      | nil => intro a w2 h; exact hQ _ _ _ h
      | cons j l ih =>
        intro a w2 h
        simp only [wpOps] at h ⊢
        split at h
        · exact ih _ _ h
        · split at h
          · rename_i hw
            rw [if_pos hw]
            rcases h with h | ⟨h1, a2, w3, h2⟩
            · exact .inl (upon _ _ _ _ _ ih h)
            · exact .inr ⟨h1, a2, w3, hQ _ _ _ h2⟩
          · rename_i hw
            rw [if_neg hw]
            exact ih _ _ h
    exact mono is _ _ this

theorem range_rel : ∀ (l : List Oper) (ops : Array Oper) (k : Nat), (∀ j, ops.toList[k + j]? = l[j]?) → All2 (fun o i => ops[i]? = some o) l (List.range' k l.length)
  | [], _, _, _ => trivial
  | o :: l, ops, k, h => by
    simp only [List.length_cons, List.range'_succ]
    refine ⟨?_, range_rel l ops (k + 1) fun j => ?_⟩
    · have := h 0; simpa using this
    · have := h (j + 1); rw [show k + (j + 1) = k + 1 + j by omega] at this; simpa using this

theorem region_ok (hx : CxOk cx P) (hp : PrimsOk cx P B) {R : RunT} (hR : CodeOk cx P B R) {id : Nat} {ops : Array Oper} {K : Exit → Fr → St → Bool} {fr : Fr} {a : Act} (hk : runOps cx R fl ops.toList ops.toList fr st (K .normal) = true) (hfl : fl ≤ st.next)
    (h : Inv cx B β st w) (hf : FrRel β fr a) (hd : a.defers = []) : (Code.region id ops false).wp P (Post cx B fl β st w K) a w := by
  refine wp_region ?_
  have := runOps_ok (K := K) hx hp hR ops.toList (List.range' 0 ops.toList.length) (range_rel ops.toList ops 0 (by simp)) fr st β a w hk hfl h hf hd
  rwa [← List.range_eq_range', Array.length_toList] at this

/-- A plan's word for a region whose order is drawn. -/
def PlanOk (cx : Cx) (P : Program) (B : Nat) : Prop :=
  ∀ R, CodeOk cx P B R → ∀ fl id ops pl fr st K, planCheck ops.toList [] pl = true → runPlan cx R fl ops.toList pl [] fr st (K .normal) = true → fl ≤ st.next → ∀ a w β, Inv cx B β st w → FrRel β fr a → a.defers = [] →
    (Code.region id ops true).wp P (Post cx B fl β st w K) a w

theorem code_ok (hx : CxOk cx P) (hp : PrimsOk cx P B) (hpl : PlanOk cx P B) : ∀ n, CodeOk cx P B (run cx n) ∧
    ∀ fl g b fr st K, run cx n fl g (.loop b) fr st K = true → plansOk cx g b = true → fl ≤ st.next → ∀ a w β, Inv cx B β st w → FrRel β fr a → a.defers = [] → Code.rounds P b (Post cx B fl β st w K) n a w
  | 0 => ⟨fun fl g c fr st K h => by simp [run] at h, fun fl g b fr st K h => by simp [run] at h⟩
  | n + 1 => by
    obtain ⟨ih, ihl⟩ := code_ok hx hp hpl n
    have loop : ∀ fl g b fr st K, run cx (n + 1) fl g (.loop b) fr st K = true → plansOk cx g b = true → fl ≤ st.next → ∀ a w β, Inv cx B β st w → FrRel β fr a → a.defers = [] → Code.rounds P b (Post cx B fl β st w K) (n + 1) a w := by
      intro fl g b fr st K hk hok hfl a w β h hf hd
      simp only [run] at hk
      rw [rounds_succ]
      refine wp_mono (ih fl g b fr st _ hk hok hfl a w β h hf hd) ?_
      rintro e a' w' ⟨fr', st', β', h1, h2, h3, h4⟩
      have mono : ∀ m a w2, Code.rounds P b (Post cx B fl β' st' w' K) m a w2 → Code.rounds P b (Post cx B fl β st w K) m a w2 := by
        intro m
        induction m with
        | zero => intro a w2 h; exact h.elim
        | succ m ihm =>
          intro a w2 h
          rw [rounds_succ] at h ⊢
          refine wp_mono h fun e a w3 hq => ?_
          cases e with
          | normal => exact ihm _ _ hq
          | _ => exact Post.trans h2 hq
      cases e with
      | normal => exact mono n _ _ (ihl fl g b fr' st' K h1 hok (Nat.le_trans hfl h2.next) a' w' β' h2.inv h3 h4)
      | _ => exact ⟨fr', st', β', h1, h2, h3, h4⟩
    refine ⟨?_, loop⟩
    intro fl g c fr st K hk hok hfl a w β h hf hd
    cases c with
    | skip => exact wp_skip ⟨fr, st, β, by simpa [run] using hk, Good.refl h, hf, hd⟩
    | region id ops draw =>
      simp only [run] at hk
      cases draw with
      | false => exact region_ok hx hp ih hk hfl h hf hd
      | true =>
        simp only [cond_true] at hk
        split at hk
        · rename_i pl hpl'
          simp only [plansOk, cond_true, hpl'] at hok
          exact hpl _ ih fl id ops pl fr st K hok hk hfl a w β h hf hd
        · cases hk
    | seq x y =>
      simp only [run] at hk
      simp only [plansOk, Bool.and_eq_true] at hok
      refine wp_seq (wp_mono (ih fl g x fr st _ hk hok.1 hfl a w β h hf hd) ?_)
      rintro e a' w' ⟨fr', st', β', h1, h2, h3, h4⟩
      cases e with
      | normal => exact wp_mono (ih fl g y fr' st' K h1 hok.2 (Nat.le_trans hfl h2.next) a' w' β' h2.inv h3 h4) fun e a2 w2 => Post.trans h2
      | _ => exact ⟨fr', st', β', h1, h2, h3, h4⟩
    | cond c x y =>
      simp only [run] at hk
      simp only [plansOk, Bool.and_eq_true] at hok
      split at hk
      · rename_i hb
        simp only [Option.bind_eq_some_iff] at hb
        obtain ⟨u', ⟨u, hu, hu'⟩, hb⟩ := hb
        exact wp_cond_true (toBool_rel (resB_rel h.facts (ev_rel hf hu) hu') hb) (ih fl g x fr st K hk hok.1 hfl a w β h hf hd)
      · rename_i hb
        simp only [Option.bind_eq_some_iff] at hb
        obtain ⟨u', ⟨u, hu, hu'⟩, hb⟩ := hb
        exact wp_cond_false (toBool_rel (resB_rel h.facts (ev_rel hf hu) hu') hb) (ih fl g y fr st K hk hok.2 hfl a w β h hf hd)
      · cases hk
    | block id b =>
      simp only [run] at hk
      simp only [plansOk] at hok
      refine wp_block (wp_mono (ih fl g b fr st _ hk hok hfl a w β h hf hd) ?_)
      rintro e a' w' ⟨fr', st', β', h1, h2, h3, h4⟩
      cases e with
      | exit i =>
        simp only at h1
        simp only [Exit.inBlock]
        cases hi : Nat.beq i id with
        | true =>
          rw [hi] at h1
          rw [if_pos (Nat.eq_of_beq_eq_true hi)]
          exact ⟨fr', st', β', h1, h2, h3, h4⟩
        | false =>
          rw [hi] at h1
          have : i ≠ id := fun e => by subst e; rw [T.beq_true rfl] at hi; cases hi
          rw [if_neg this]
          exact ⟨fr', st', β', h1, h2, h3, h4⟩
      | _ => exact ⟨fr', st', β', h1, h2, h3, h4⟩
    | loop b => exact wp_loop_rounds (n + 1) (loop fl g b fr st K hk (by simpa [plansOk] using hok) hfl a w β h hf hd)
    | exit id => exact wp_exit ⟨fr, st, β, by simpa [run] using hk, Good.refl h, hf, hd⟩
    | ret => exact wp_ret ⟨fr, st, β, by simpa [run] using hk, Good.refl h, hf, hd⟩
    | _ => simp [run] at hk
end Go.Am
