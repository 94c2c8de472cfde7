/- On the seat of the open Play statements: the reference's check of pitches: its contract. -/
import Derived.Test.YthlmjjdlmidnlaaGreatDoorArD1
import Derived.Test.YthlmjjdlmidnlaaGreatDoorArCc
namespace Go.Proofs.Tryz
open Go Go.Am
set_option maxRecDepth 100000

section
variable {w : World} {y0 : Int → Int} {yo yn : Int}
def vR (y0 : Int → Int) (yo yn : Int) (m : Nat) : Int :=
  if m < 100 then [yo, yn].getD m 0 else if m < 125 then gR y0 yo yn (m - 100) else if m = 920 then errP (gR y0 yo yn) yn 24 else 0
def ρR (w : World) (y0 : Int → Int) (yo yn : Int) : Env := ⟨vR y0 yo yn, fG (fun _ => y0) (fun _ _ => 0), fun _ => (0, 0), memOf w⟩

theorem r_go {i : Nat} (hi : i < 25) : (sGo i).val (ρR w y0 yo yn) = gR y0 yo yn i := by
  show vR y0 yo yn (100 + i) = _
  unfold vR
  rw [if_neg (by omega), if_pos (by omega), show 100 + i - 100 = i by omega]
theorem r_b (i : Nat) : (bP i).val (ρR w y0 yo yn) = y0 (yo + i) := by
  unfold bP; rw [appE_val]
  show fG (fun _ => y0) (fun _ _ => 0) (1000 + 0) [yo + (i : Int)] = _
  rw [fG_y, bs_y (by omega)]
theorem r_6 (i : Nat) : (has6 i).val (ρR w y0 yo yn) = h6 (y0 (yo + i)) := by
  unfold has6; rw [appE_val, List.map_cons, bytesE_int, r_b]
  have e : (ρR w y0 yo yn).f = fG (fun _ => y0) (fun _ _ => 0) := rfl
  rw [e, fG_s (by omega)]; rfl
theorem r_2 (i : Nat) : (has2 i).val (ρR w y0 yo yn) = h2 (y0 (yo + i)) := by
  unfold has2; rw [appE_val, List.map_cons, bytesE_int, r_b]
  have e : (ρR w y0 yo yn).f = fG (fun _ => y0) (fun _ _ => 0) := rfl
  rw [e, fG_s (by omega)]; rfl
theorem r_last : lastE.val (ρR w y0 yo yn) = wl yn := (rfl)
theorem r_yN : yN.val (ρR w y0 yo yn) = yn := (rfl)
theorem ev_dGoR : ∀ i, i < 25 → (dGoR i).eval (ρR w y0 yo yn) = gR y0 yo yn i
  | 0, _ => rfl
  | i + 1, h => by
    simp only [dGoR, gR, ev_eq, ev_le, ev_lf', val_L', r_go (show i < 25 by omega), r_6, r_2, r_last]
theorem ev_dErrR : ∀ m, m ≤ 24 → (dErr m).eval (ρR w y0 yo yn) = errP (gR y0 yo yn) yn m
  | 0, _ => rfl
  | m + 1, h => by
    simp only [dErr, errP, ev_le, ev_eq, ev_lf', val_L', r_yN, r_go (show 24 - m < 25 by omega)]
    rw [ev_dErrR m (by omega)]

theorem defR_ok : ∀ m x, defR m = some x → (ρR w y0 yo yn).v m = x.eval (ρR w y0 yo yn) := by
  intro m x hx
  show vR y0 yo yn m = _
  unfold defR at hx
  cases h1 : Nat.blt m 100 with
  | true => rw [h1] at hx; cases hx
  | false =>
  rw [h1] at hx
  simp only [cond_false] at hx
  have n1 := blt_f h1
  cases h2 : Nat.blt m 125 with
  | true =>
    rw [h2] at hx
    simp only [cond_true, Option.some.injEq] at hx; subst hx
    have n2 := blt_t h2
    rw [ev_dGoR _ (by omega)]
    unfold vR
    rw [if_neg n1, if_pos n2]
  | false =>
  rw [h2] at hx
  simp only [cond_false] at hx
  have n2 := blt_f h2
  cases h3 : Nat.beq m 920 with
  | false => rw [h3] at hx; cases hx
  | true =>
    rw [h3] at hx
    simp only [cond_true, Option.some.injEq] at hx; subst hx
    rw [ev_dErrR 24 (by omega)]
    unfold vR
    rw [if_neg n1, if_neg n2, if_pos (Nat.eq_of_beq_eq_true h3)]

theorem tokR (y t : Nat → Int → Int) (B : Nat) : TOk (cxR (fG y t)) B tR := (tokBase tR (fG y t) defR noRows).add (pokHas fun l => by rw [fG_s (by omega)]; rfl)

theorem run_R {o : Exit × Fr × St} {l0 : Asg} {n : Int} {pvv : Value} (hk : runR (fG (fun _ => y0) (fun _ _ => 0)) o l0 (isV (iC n)) = true) (h : Laid w) (hl : AsgOk (ρR w y0 yo yn) l0) (hp : IsStr pvv y0 yo yn) :
    CallRet prog 74 #[pvv] w fun v' w' => v' = vi n ∧ Kept w w' := by
  have hi : Inv (cxR (fG (fun _ => y0) (fun _ _ => 0))) w.heap.size { m := fun _ => none, env := ρR w y0 yo yn } ⟨.nil, 0⟩ w := inv0 _ rfl rfl defR_ok h (fun k l hk => by cases hk)
  have ha : All2 (VRel { m := fun _ => none, env := ρR w y0 yo yn }) argsR (#[pvv] : Array Value).toList := by
    refine ⟨ot_rel (y := y0) ?_ fun j => ?_, trivial⟩
    · exact hp
    · show fG (fun _ => y0) (fun _ _ => 0) (1000 + 0) [j] = _
      rw [fG_y, bs_y (by omega)]
  obtain ⟨l', h1, h2⟩ := symL (c := cxR (fG (fun _ => y0) (fun _ _ => 0))) (K := fun _ => isV (iC n)) (tl := noTails) (ann := annR o) (n := 200) (m := 30) cxWOk (tokR _ _ _) rfl hk hl (Nat.le_refl _) hi ha
  refine h2.mono ?_
  rintro v' w' ⟨v, st', β', q1, q2, q3⟩
  have hv := eqVv_ok q1
  subst hv
  exact ⟨q2, Kept.ofNil q3⟩

theorem pit_ret {pvv : Value} (h : Laid w) (hp : IsStr pvv y0 yo yn) : CallRet prog 74 #[pvv] w fun v' w' => v' = vi (pitV y0 yo yn) ∧ Kept w w' := by
  have hn : 0 ≤ yn := by obtain ⟨l, _, h1, _⟩ := hp; omega
  rw [pitV_R hn]
  by_cases h24 : yn ≤ 24
  · by_cases he : errP (gR y0 yo yn) yn 24 = 0
    · rw [if_pos h24, if_pos he]
      exact run_R (runOkR _) h (asC (h_eq he) (asC (h_le h24) asN)) hp
    · rw [if_pos h24, if_neg he]
      exact run_R (runBadR _) h (asC (h_ne he) (asC (h_le h24) asN)) hp
  · rw [if_neg h24]
    exact run_R (runLongR _) h (asC (h_nle h24) asN) hp
end

def pPit (_ : Nat) (args : List V) (st : St) : Option (V × St) :=
  match args with
  | [.a (.c (.ot k o n))] => some (sE (appE 60 [L (k : Nat), o, n]), st)
  | _ => none
section
variable {q : FuncId → Option PT} {g : Nat → List Int → Int} {d : Nat → Option DT} {o : Nat → Option (List C)} {B : Nat}
theorem pokPit (hg : ∀ (k : Nat) (o n : Int), g 60 [(k : Int), o, n] = pitV (fun j => g (1000 + k) [j]) o n) : POk (cxW q g d o) B 74 pPit := by
  intro fl β st w args args' v st' hi hfl ha hpv
  have hL : Laid w := laid_base (cx' := cxW q g d o) rfl hi
  have hfn : β.env.f = g := hi.facts.fns
  unfold pPit at hpv
  obtain ⟨al⟩ := args'
  split at hpv
  case h_2 => cases hpv
  rename_i k oe ne
  simp only [Option.some.injEq, Prod.mk.injEq] at hpv
  obtain ⟨rfl, rfl⟩ := hpv
  match al, ha with
  | [x'], hr =>
    refine prim_kept hi (v' := vi (pitV (fun j => β.env.f (1000 + k) [j]) (oe.val β.env) (ne.val β.env))) ?_ (pit_ret hL (str_of hr.1))
    exact ansI_rel (by rw [hfn]; exact hg _ _ _)
end
theorem pit60 (y t : Nat → Int → Int) (k : Nat) (o n : Int) : fG y t 60 [(k : Int), o, n] = pitV (fun j => fG y t (1000 + k) [j]) o n := by
  rw [fG_s (by omega)]
  have e : (fun j => fG y t (1000 + k) [j]) = bs y t (1000 + k) := by funext j; rw [fG_y]
  rw [e]; rfl

/-! ### the play, by the reference: what the kernel runs -/
def pitE : E := appE 60 [L 0, yO, yN]
def has7 : E := appE 66 (eB :: bytesE [75, 87, 72, 73, 88, 78, 89])
def evDR (d : DT) : DT := .node (.eq eN (L 0)) d (.node (.eq eN (L 1)) (.node (.eq has7 (L 0)) (dLf 13) d) (dLf 13))
def endDR (k : Option Nat) : DT := .node (.eq pitE (L 0)) (evDR (match k with | some n => mvsD n 0 | none => dLf 5)) (.leaf pitE)
noncomputable def tD : FuncId → Option PT := addP 74 pPit (addP 97 pHas (addP 18 pMv (addP 20 pMv cx.prim)))
noncomputable def cxD (k : Option Nat) (g : Nat → List Int → Int) : Cx := cxW tD g noDefs (rowsP k)
noncomputable def runD (k : Option Nat) (g : Nat → List Int → Int) (l0 : Asg) : Bool := runOne 200 60 (cxD k g) 17 l0 (argsP k) (fun l => isT (cxD k g) l (endDR k))
end Go.Proofs.Tryz
