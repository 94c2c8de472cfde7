/- On the seat of the open Play statements: PlayNames returns true, and what was in memory is as it was. -/
import Derived.Test.YthlmjjdlmidnlaaGreatDoorArIc
import Derived.Test.YthlmjjdlmidnlaaGreatDoorArZc
namespace Go.Proofs.Tryz
open Go Go.Am Go.RowKit Go.Dr
set_option maxRecDepth 100000

noncomputable def tVb (b : Bool) : FuncId → Option PT := addP 13 pTrue (addP 41 (pNm b) (addP 42 (pNm b) cx.prim))
noncomputable def tVg (b : Bool) : FuncId → Option PT := addP 38 (pDr true) (addP 40 (pDr false) (addP 66 pSm (tVb b)))
def argsV : List V := [.a (.c stC), sE kE, sE nE]
noncomputable def runV (q : FuncId → Option PT) (g : Nat → List Int → Int) (l0 : Asg) : Bool :=
  let c := cxW q g noDefs noRows
  paths 40 l0 (askCallF c noAnn noTails 200 0 6 argsV ⟨.nil, 0⟩) fun l => callG (withT c l) (runL c noAnn 200 noTails l) 0 6 argsV ⟨.nil, 0⟩ (fun v _ => isTrue v)

theorem runVgt (g : Nat → List Int → Int) : runV (tVg true) g [(.le (L 1) kE, true), (.le kE (L 2147483398), true), (.le (L 0) nE, true), (.le nE (L 256), true)] = true := by kernel_rfl
theorem runVgf (g : Nat → List Int → Int) : runV (tVg false) g [(.le (L 1) kE, true), (.le kE (L 2147483398), true), (.le (L 0) nE, true), (.le nE (L 256), true)] = true := by kernel_rfl
theorem runV0t (g : Nat → List Int → Int) : runV (tVb true) g [(.le (L 1) kE, false)] = true := by kernel_rfl
theorem runV0f (g : Nat → List Int → Int) : runV (tVb false) g [(.le (L 1) kE, false)] = true := by kernel_rfl
theorem runV1t (g : Nat → List Int → Int) : runV (tVb true) g [(.le (L 1) kE, true), (.le kE (L 2147483398), false)] = true := by kernel_rfl
theorem runV1f (g : Nat → List Int → Int) : runV (tVb false) g [(.le (L 1) kE, true), (.le kE (L 2147483398), false)] = true := by kernel_rfl
theorem runV2t (g : Nat → List Int → Int) : runV (tVb true) g [(.le (L 1) kE, true), (.le kE (L 2147483398), true), (.le (L 0) nE, false)] = true := by kernel_rfl
theorem runV2f (g : Nat → List Int → Int) : runV (tVb false) g [(.le (L 1) kE, true), (.le kE (L 2147483398), true), (.le (L 0) nE, false)] = true := by kernel_rfl
theorem runV3t (g : Nat → List Int → Int) : runV (tVb true) g [(.le (L 1) kE, true), (.le kE (L 2147483398), true), (.le (L 0) nE, true), (.le nE (L 256), false)] = true := by kernel_rfl
theorem runV3f (g : Nat → List Int → Int) : runV (tVb false) g [(.le (L 1) kE, true), (.le kE (L 2147483398), true), (.le (L 0) nE, true), (.le nE (L 256), false)] = true := by kernel_rfl

section
variable {y : Int → Int} {len key n : Int} {w : World}
theorem tokVb (q : FuncId → Option PT) (B : Nat) : TOk (cxW q (fNm y len key n) noDefs noRows) B (tVb (Nm.nmB y 0 len)) :=
  (((tokBase q (fNm y len key n) noDefs noRows).add (pokNm fun _ _ h hs => Nm.nameR_ret h hs)).add (pokNm fun _ _ h hs => Nm.name_ret h hs)).add (pokTrue fun _ h => awake h)
theorem tokVg (q : FuncId → Option PT) (B : Nat) (h1 : 1 ≤ key) (h2 : key ≤ 2147483398) (h3 : 0 ≤ n) (h4 : n ≤ 256) : TOk (cxW q (fNm y len key n) noDefs noRows) B (tVg (Nm.nmB y 0 len)) :=
  (((tokVb q B).add (pokSm h4)).add (pokDrR h1 h2 h3 h4)).add (pokDr h1 h2 h3 h4)

theorem run_V {q : FuncId → Option PT} {l0 : Asg} (hq : ∀ B, TOk (cxW q (fNm y len key n) noDefs noRows) B q) (hk : runV q (fNm y len key n) l0 = true) (h : Laid w) (hl : AsgOk (envW w [] (fNm y len key n)) l0) {v : Value} (hs : IsStr v y 0 len) :
    CallRet prog 6 #[v, vi key, vi n] w fun v' w' => v' = .bool true ∧ Kept w w' := by
  have hi := inv1 (q := q) (g := fNm y len key n) (vs := []) h
  have ha : All2 (VRel (β0 w [] (fNm y len key n))) argsV (#[v, vi key, vi n] : Array Value).toList := by
    obtain ⟨s, rfl, hn, hy⟩ := hs
    refine ⟨⟨s, rfl, ?_, fun j c hc => ?_⟩, ?_, ?_, trivial⟩
    · show (s.length : Int) = lE.val (β0 w [] (fNm y len key n)).env
      unfold lE; rw [appE_val]; exact hn
    · exact hy j c hc
    · show vi key = Value.int .i64 (kE.val _)
      unfold kE; rw [appE_val]; rfl
    · show vi n = Value.int .i64 (nE.val _)
      unfold nE; rw [appE_val]; rfl
  obtain ⟨l', h1, h2⟩ := symL (c := cxW q (fNm y len key n) noDefs noRows) (K := fun _ v _ => isTrue v) (tl := noTails) (ann := noAnn) (n := 200) (m := 40) cxWOk (hq _) rfl hk hl (Nat.le_refl _) hi ha
  refine h2.mono ?_
  rintro v' w' ⟨v, st', β', q1, q2, q3⟩
  exact ⟨isTrue_rel q1 q2, Kept.ofNil q3⟩

theorem vkE : kE.val (envW w [] (fNm y len key n)) = key := by unfold kE; rw [appE_val]; rfl
theorem vnE : nE.val (envW w [] (fNm y len key n)) = n := by unfold nE; rw [appE_val]; rfl

theorem names_law (h : Laid w) {v : Value} (hs : IsStr v y 0 len) : CallRet prog 6 #[v, vi key, vi n] w fun v' w' => v' = .bool true ∧ Kept w w' := by
  by_cases h1 : 1 ≤ key
  case neg =>
    have hl : AsgOk (envW w [] (fNm y len key n)) [(.le (L 1) kE, false)] := asC (h_nle (by rw [vkE]; exact h1)) asN
    have hq := fun B => tokVb (y := y) (len := len) (key := key) (n := n) (tVb (Nm.nmB y 0 len)) B
    cases hb : Nm.nmB y 0 len <;> rw [hb] at hq
    · exact run_V hq (runV0f _) h hl hs
    · exact run_V hq (runV0t _) h hl hs
  have f1 : Tst.holds (envW w [] (fNm y len key n)) (.le (L 1) kE) = true := h_le (by rw [vkE]; exact h1)
  by_cases h2 : key ≤ 2147483398
  case neg =>
    have hl : AsgOk (envW w [] (fNm y len key n)) [(.le (L 1) kE, true), (.le kE (L 2147483398), false)] := asC f1 (asC (h_nle (by rw [vkE]; exact h2)) asN)
    have hq := fun B => tokVb (y := y) (len := len) (key := key) (n := n) (tVb (Nm.nmB y 0 len)) B
    cases hb : Nm.nmB y 0 len <;> rw [hb] at hq
    · exact run_V hq (runV1f _) h hl hs
    · exact run_V hq (runV1t _) h hl hs
  have f2 : Tst.holds (envW w [] (fNm y len key n)) (.le kE (L 2147483398)) = true := h_le (by rw [vkE]; exact h2)
  by_cases h3 : 0 ≤ n
  case neg =>
    have hl : AsgOk (envW w [] (fNm y len key n)) [(.le (L 1) kE, true), (.le kE (L 2147483398), true), (.le (L 0) nE, false)] := asC f1 (asC f2 (asC (h_nle (by rw [vnE]; exact h3)) asN))
    have hq := fun B => tokVb (y := y) (len := len) (key := key) (n := n) (tVb (Nm.nmB y 0 len)) B
    cases hb : Nm.nmB y 0 len <;> rw [hb] at hq
    · exact run_V hq (runV2f _) h hl hs
    · exact run_V hq (runV2t _) h hl hs
  have f3 : Tst.holds (envW w [] (fNm y len key n)) (.le (L 0) nE) = true := h_le (by rw [vnE]; exact h3)
  by_cases h4 : n ≤ 256
  case neg =>
    have hl : AsgOk (envW w [] (fNm y len key n)) [(.le (L 1) kE, true), (.le kE (L 2147483398), true), (.le (L 0) nE, true), (.le nE (L 256), false)] := asC f1 (asC f2 (asC f3 (asC (h_nle (by rw [vnE]; exact h4)) asN)))
    have hq := fun B => tokVb (y := y) (len := len) (key := key) (n := n) (tVb (Nm.nmB y 0 len)) B
    cases hb : Nm.nmB y 0 len <;> rw [hb] at hq
    · exact run_V hq (runV3f _) h hl hs
    · exact run_V hq (runV3t _) h hl hs
  have hl : AsgOk (envW w [] (fNm y len key n)) [(.le (L 1) kE, true), (.le kE (L 2147483398), true), (.le (L 0) nE, true), (.le nE (L 256), true)] := asC f1 (asC f2 (asC f3 (asC (h_le (by rw [vnE]; exact h4)) asN)))
  have hq := fun B => tokVg (y := y) (len := len) (key := key) (n := n) (tVg (Nm.nmB y 0 len)) B h1 h2 h3 h4
  cases hb : Nm.nmB y 0 len <;> rw [hb] at hq
  · exact run_V hq (runVgf _) h hl hs
  · exact run_V hq (runVgt _) h hl hs
end
end Go.Proofs.Tryz
