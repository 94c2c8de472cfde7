/- On the seat of the open Play statements: the check of a play as a primitive, the program's and the reference's. On the seat of the open Play statements: PlayForms: what the kernel runs. On the seat of the open Play statements: plays and moves as arguments of a run. -/
import Derived.Test.YthlmjjdlmidnlaaGreatDoorArDe
import Derived.Test.YthlmjjdlmidnlaaGreatDoorArZc
namespace Go.Proofs.Tryz
open Go Go.Am
set_option maxRecDepth 100000

/-- A slice of moves: how many, their cells. -/
def mvCells (o : Nat → Option (List C)) (st : St) : C → Option (Nat × List C)
  | .slx (.lit (.ofNat 0)) => some (0, [])
  | .sc (.slice none 0 0) => some (0, [])
  | .sl id off n cap _ => bif Nat.ble n cap then (match st.get id with
    | some (.cells l _ _) => (sub l off (5 * n)).map fun x => (n, x)
    | _ => none) else none
  | .osl k off n => (match o k with
    | some l => (sub l off (5 * n)).map fun x => (n, x)
    | none => none)
  | _ => none
def mvList : Nat → List C → Option (List MvE)
  | 0, [] => some []
  | n + 1, l => match mvOf (l.take 5), mvList n (l.drop 5) with
    | some m, some ms => some (m :: ms)
    | _, _ => none
  | _, _ => none
def mvFlat (m : MvE) : List E := [m.fr, m.to, m.x, L (m.k : Nat), m.so, m.sn, L (m.kb : Nat), m.bo, m.bn]
def mvFlats : List MvE → List E
  | [] => []
  | m :: ms => mvFlat m ++ mvFlats ms
def isB : C → Bool
  | .sb _ => true
  | .sc (.bool _) => true
  | _ => false
def plE (k0 : Nat) (yo yn : E) (k1 : Nat) (eo en : E) (n : Nat) (ms : List MvE) : E := appE 50 (L (k0 : Nat) :: yo :: yn :: L (k1 : Nat) :: eo :: en :: L (n : Nat) :: mvFlats ms)
def pPl (o : Nat → Option (List C)) (_ : Nat) (args : List V) (st : St) : Option (V × St) :=
  match args with
  | [.a (.agg [.ot k0 yo yn, .ot k1 eo en, lx, mc])] => bif isB lx then (match mvCells o st mc with
    | some (n, l) => (mvList n l).map fun ms => (sE (plE k0 yo yn k1 eo en n ms), st)
    | none => none) else none
  | _ => none

theorem mvList_length : ∀ {n : Nat} {l : List C} {ms : List MvE}, mvList n l = some ms → ms.length = n ∧ l.length ≤ 5 * n
  | 0, [], ms, h => by simp only [mvList, Option.some.injEq] at h; subst h; exact ⟨rfl, by simp⟩
  | 0, _ :: _, _, h => by simp [mvList] at h
  | n + 1, l, ms, h => by
    simp only [mvList] at h
    split at h
    · rename_i m ms' h1 h2
      simp only [Option.some.injEq] at h; subst h
      obtain ⟨e1, e2⟩ := mvList_length h2
      rw [List.length_drop] at e2
      exact ⟨by simp [e1], by omega⟩
    · cases h

theorem flats_get (f : List MvE → List E) (ρ : Env) : ∀ (ms : List MvE) (i : Nat) (m : MvE), ms[i]? = some m → (((mvFlats ms).map (E.val ρ)).drop (9 * i)).take 9 = (mvFlat m).map (E.val ρ)
  | [], i, m, h => by simp at h
  | m0 :: ms, 0, m, h => by
    simp at h; subst h
    simp only [mvFlats, List.map_append, Nat.mul_zero, List.drop_zero]
    exact List.take_left' rfl
  | m0 :: ms, i + 1, m, h => by
    have ih := flats_get f ρ ms i m (by simpa using h)
    simp only [mvFlats, List.map_append]
    rw [List.drop_append, show ((mvFlat m0).map (E.val ρ)).drop (9 * (i + 1)) = [] from List.drop_eq_nil_of_le (by simp [mvFlat]; omega)]
    rw [List.nil_append, show 9 * (i + 1) - ((mvFlat m0).map (E.val ρ)).length = 9 * i by simp [mvFlat]; omega]
    exact ih

section
variable {q : FuncId → Option PT} {y t : Nat → Int → Int} {d : Nat → Option DT} {o : Nat → Option (List C)} {B : Nat}

/-- What the moves' cells stand for. -/
theorem mvList_rel {w : World} {st : St} {β : Be} (hi : Inv (cxW q (fG y t) d o) B β st w) {b : Nat} : ∀ {n off : Nat} {l : List C} {ms : List MvE} {vs : List Value}, mvList n l = some ms → All2 (CRel β) l vs → (∀ j x, vs[j]? = some x → w.cell? ⟨b, off + j, none⟩ = some x) →
    ∀ i m, ms[i]? = some m → IsMv w (cellsAt w b (off + 5 * i) 5) (mvdOf y t ((mvFlat m).map (E.val β.env)))
  | 0, _, l, ms, vs, h, _, _, i, m, hm => by
    cases l with
    | nil => simp only [mvList, Option.some.injEq] at h; subst h; simp at hm
    | cons _ _ => simp [mvList] at h
  | n + 1, off, l, ms, vs, h, hr, hc, i, m, hm => by
    have hfn : β.env.f = fG y t := hi.facts.fns
    simp only [mvList] at h
    split at h
    case h_2 => cases h
    rename_i m0 ms' h1 h2
    simp only [Option.some.injEq] at h; subst h
    have hr5 := hr.take 5
    have hrd := hr.drop 5
    cases i with
    | zero =>
      simp at hm; subst hm
      obtain ⟨sv, bv, e, s1, s2⟩ := mvOf_rel hi h1 hr5
      have hlen : (vs.take 5).length = 5 := by rw [e]; rfl
      have hv5 : 5 ≤ vs.length := by rw [List.length_take] at hlen; omega
      have hcell : ∀ j, j < 5 → w.cell? ⟨b, off + j, none⟩ = (vs.take 5)[j]? := fun j hj => by
        have hj' : j < vs.length := by omega
        rw [List.getElem?_take, if_pos hj, List.getElem?_eq_getElem hj']
        exact hc j _ (List.getElem?_eq_getElem hj')
      refine ⟨sv, bv, ?_, ?_, ?_⟩
      · have c0 := hcell 0 (by omega)
        have c1 := hcell 1 (by omega)
        have c2 := hcell 2 (by omega)
        have c3 := hcell 3 (by omega)
        have c4 := hcell 4 (by omega)
        rw [e] at c0 c1 c2 c3 c4
        simp only [cellsAt, Nat.mul_zero, Nat.add_zero, List.getElem?_cons_zero, List.getElem?_cons_succ] at c0 c1 c2 c3 c4 ⊢
        rw [c0, c1, show off + 1 + 1 = off + 2 by omega, c2, show off + 2 + 1 = off + 3 by omega, c3, show off + 3 + 1 = off + 4 by omega, c4]
        rfl
      · have : (fun j => β.env.f (1000 + m0.k) [j]) = bs y t (1000 + ((m0.k : Nat) : Int).toNat) := by funext j; rw [hfn, fG_y]; rfl
        rw [this] at s1; exact s1
      · have : (fun j => β.env.f (2000 + m0.kb) [j]) = bs y t (2000 + ((m0.kb : Nat) : Int).toNat) := by funext j; rw [hfn, fG_t]; rfl
        rw [this] at s2; exact s2
    | succ i =>
      have ih := mvList_rel hi (off := off + 5) h2 hrd (fun j x hx => by
        rw [List.getElem?_drop] at hx
        have := hc (5 + j) x hx
        rw [show off + 5 + j = off + (5 + j) by omega]; exact this) i m (by simpa using hm)
      rw [show off + 5 * (i + 1) = off + 5 + 5 * i by omega]; exact ih

theorem mvCells_rel {w : World} {st : St} {β : Be} (hi : Inv (cxW q (fG y t) d o) B β st w) {mc : C} {mv : Value} (hr : CRel β mc mv) {n : Nat} {l : List C} (h : mvCells o st mc = some (n, l)) {ms : List MvE} (hm : mvList n l = some ms) :
    IsMoves w mv (mvdsOf y t ((mvFlats ms).map (E.val β.env))) n := by
  have fin : ∀ {p : C} {pv : Value} {a : Option Addr} {c : Nat}, n ≤ c → CRel β p pv → loadN (cxW q (fG y t) d o) st p (5 * n) = some l → (∀ b off, pv = adr b off → a = some ⟨b, off, none⟩) → IsMoves w (.slice a n c) (mvdsOf y t ((mvFlats ms).map (E.val β.env))) n := fun hc hp hl ha => by
    obtain ⟨b, off, vs, e1, e2, _, _, e5⟩ := loadN_rel hi hp hl
    refine ⟨_, _, rfl, hc, fun _ => ⟨b, off, ha b off e1, fun i hin => ?_⟩⟩
    obtain ⟨hlen, _⟩ := mvList_length hm
    have hm1 : ms[i]? = some ms[i] := List.getElem?_eq_getElem (by omega)
    have := mvList_rel hi hm e2 e5 i _ hm1
    unfold mvdsOf
    rw [flats_get (fun _ => []) β.env ms i _ hm1]
    exact this
  unfold mvCells at h
  split at h
  · simp only [Option.some.injEq, Prod.mk.injEq] at h
    obtain ⟨rfl, rfl⟩ := h
    obtain ⟨a, m, c, rfl, e⟩ := hr
    have : m = 0 := by
      have e' : (m : Int) = 0 := e
      omega
    subst this
    exact ⟨a, c, rfl, by omega, fun h => absurd rfl h⟩
  · simp only [Option.some.injEq, Prod.mk.injEq] at h
    obtain ⟨rfl, rfl⟩ := h
    have e : mv = .slice none 0 0 := hr
    subst e
    exact ⟨none, 0, rfl, by omega, fun h => absurd rfl h⟩
  · rename_i id off n' cap fx
    cases hnc : Nat.ble n' cap with
    | false => rw [hnc] at h; cases h
    | true =>
    rw [hnc] at h
    simp only [cond_true] at h
    have hnc' := Nat.le_of_ble_eq_true hnc
    split at h
    case h_2 => cases h
    rename_i l' e' fx' hg
    simp only [Option.map_eq_some_iff, Prod.mk.injEq] at h
    obtain ⟨x, hx, rfl, rfl⟩ := h
    obtain ⟨b, e, hb, rfl⟩ := hr
    refine fin (p := .ptr id off) (pv := adr b off) ?_ ⟨b, e, hb, rfl⟩ ?_ fun b' off' he => ?_
    · cases fx <;> simp <;> omega
    · simp only [loadN, hg]; exact hx
    · simp only [adr, Value.pointer.injEq, Option.some.injEq] at he; rw [he]
  · rename_i k off n'
    split at h
    case h_2 => cases h
    rename_i l' hg
    simp only [Option.map_eq_some_iff, Prod.mk.injEq] at h
    obtain ⟨x, hx, rfl, rfl⟩ := h
    obtain ⟨c, hc, rfl⟩ := hr
    refine fin (p := .optr k off) hc rfl ?_ fun b' off' he => ?_
    · have hg' : (cxW q (fG y t) d o).outer k = some l' := hg
      simp only [loadN, hg']; exact hx
    · simp only [adr, Value.pointer.injEq, Option.some.injEq] at he; rw [he]
  · cases h

/-- Both checks of a play, as a primitive. -/
theorem pokPl {f : Nat} (hf : f = 15 ∨ f = 17) : POk (cxW q (fG y t) d o) B f (pPl o) := by
  intro fl β st w args args' v st' hi hfl ha hpv
  have hL : Laid w := laid_base (cx' := cxW q (fG y t) d o) rfl hi
  have hfn : β.env.f = fG y t := hi.facts.fns
  unfold pPl at hpv
  split at hpv
  case h_2 => cases hpv
  rename_i k0 yo yn k1 eo en lx mc
  cases hb : isB lx with
  | false => rw [hb] at hpv; cases hpv
  | true =>
  rw [hb] at hpv
  simp only [cond_true] at hpv
  split at hpv
  case h_2 => cases hpv
  rename_i n l hcl
  simp only [Option.map_eq_some_iff, Prod.mk.injEq] at hpv
  obtain ⟨ms, hms, rfl, rfl⟩ := hpv
  obtain ⟨al⟩ := args'
  match al, ha with
  | [v1], ha =>
    obtain ⟨⟨⟨cs⟩, rfl, hr, hs⟩, _⟩ := ha
    match cs, hr with
    | [u1, u2, u3, u4], ⟨r1, r2, r3, r4, _⟩ =>
      have s1 := str_of r1
      have s2 := str_of r2
      obtain ⟨x, e3⟩ : ∃ x : Int, u3 = .bool (decide (x ≠ 0)) := by
        unfold isB at hb
        split at hb
        · exact ⟨_, r3⟩
        · rename_i b
          have e : u3 = .bool b := r3
          exact ⟨bif b then 1 else 0, by rw [e]; cases b <;> rfl⟩
        · cases hb
      subst e3
      have hmv := mvCells_rel hi r4 hcl hms
      have y0e : (fun j => β.env.f (1000 + k0) [j]) = bs y t (1000 + ((k0 : Nat) : Int).toNat) := by funext j; rw [hfn, fG_y]; rfl
      have y1e : (fun j => β.env.f (1000 + k1) [j]) = bs y t (1000 + ((k1 : Nat) : Int).toNat) := by funext j; rw [hfn, fG_y]; rfl
      rw [y0e] at s1
      rw [y1e] at s2
      have hv : VRel β (sE (plE k0 yo yn k1 eo en n ms)) (vi (plV (bs y t (1000 + ((k0 : Nat) : Int).toNat)) (yo.val β.env) (yn.val β.env) (bs y t (1000 + ((k1 : Nat) : Int).toNat)) (eo.val β.env) (en.val β.env) (mvdsOf y t ((mvFlats ms).map (E.val β.env))) n)) :=
        ansI_rel (by rw [hfn, fG_s (by omega)]; rfl)
      rcases hf with rfl | rfl
      · exact prim_kept hi hv (play_ret (lx := x) hL s1 s2 hmv)
      · exact prim_kept hi hv (playR_ret (lx := x) hL s1 s2 hmv)
end
end Go.Proofs.Tryz

namespace Go.Proofs.Tryz
open Go Go.Am
set_option maxRecDepth 100000

noncomputable def tLf (k : Option Nat) : FuncId → Option PT := addP 13 pTrue (addP 15 (pPl (rowsP k)) (addP 17 (pPl (rowsP k)) (addP 18 pMv (addP 20 pMv cx.prim))))
noncomputable def cxF (k : Option Nat) (g : Nat → List Int → Int) : Cx := cxW (tLf k) g noDefs (rowsP k)
def argsF (k : Option Nat) : List V := [.a (.agg (playC k)), .a (.agg (mvC 8))]
noncomputable def runF (k : Option Nat) (g : Nat → List Int → Int) (l0 : Asg) : Bool :=
  paths 40 l0 (askCallF (cxF k g) noAnn noTails 200 0 3 (argsF k) ⟨.nil, 0⟩) fun l => callG (withT (cxF k g) l) (runL (cxF k g) noAnn 200 noTails l) 0 3 (argsF k) ⟨.nil, 0⟩ (fun v _ => isTrue v)
end Go.Proofs.Tryz

namespace Go.Proofs.Tryz
open Go Go.Am
set_option maxRecDepth 100000

section
variable {w : World} {y0 y1 : Int → Int} {yo yn eo en lx ml : Int} {d : Nat → MvD} {k : Option Nat} {b0 o0 : Nat}

/-- A move's cells and its values. -/
theorem mvC_rel {i : Nat} {sv bv : Value} (hi : i < 9) (hs : IsStr sv (d i).y (d i).so (d i).sn) (hb : IsInts w bv (d i).t (d i).bo (d i).bn) :
    ARel { m := fun _ => none, env := ρP w y0 y1 yo yn eo en lx ml d k b0 o0 } (.agg (mvC i)) (.agg #[vi (d i).fr, vi (d i).to, .bool (decide ((d i).x ≠ 0)), sv, bv]) := by
  have hv : ∀ j, j < 10 → (pv i j).val (ρP w y0 y1 yo yn eo en lx ml d k b0 o0) = compM (d i) j := fun j hj => by
    show vP y0 y1 yo yn eo en lx ml d k (10 + 10 * i + j) = _
    unfold vP
    rw [if_pos (by omega)]; exact bvP_pv _ _ hj
  have s1 : scal sv = true := by obtain ⟨l, rfl, _⟩ := hs; rfl
  have s2 : scal bv = true := by obtain ⟨a, m, c, rfl, _⟩ := hb; rfl
  refine ⟨_, rfl, ⟨?_, ?_, ?_, ot_rel (y := (d i).y) ?_ fun j => ?_, ost_rel (w := w) (t := (d i).t) ?_ rfl fun j => ?_, trivial⟩, fun z hz => ?_⟩
  · show vi (d i).fr = Value.int .i64 ((pv i 0).val _)
    rw [hv 0 (by omega)]; rfl
  · show vi (d i).to = Value.int .i64 ((pv i 1).val _)
    rw [hv 1 (by omega)]; rfl
  · show _ = Value.bool (decide ((pv i 2).val _ ≠ 0))
    rw [hv 2 (by omega)]; rfl
  · show IsStr sv (d i).y ((pv i 3).val (ρP w y0 y1 yo yn eo en lx ml d k b0 o0)) ((pv i 4).val (ρP w y0 y1 yo yn eo en lx ml d k b0 o0))
    rw [hv 3 (by omega), hv 4 (by omega)]; exact hs
  · show fG (yP y0 y1 d) (tP' d) (1000 + (2 + i)) [j] = _
    rw [fG_y, bs_y (by omega)]
    show (if 2 + i = 0 then y0 else if 2 + i = 1 then y1 else (d (2 + i - 2)).y) j = _
    rw [if_neg (by omega), if_neg (by omega), show 2 + i - 2 = i by omega]
  · show IsInts w bv (d i).t ((pv i 5).val (ρP w y0 y1 yo yn eo en lx ml d k b0 o0)) ((pv i 6).val (ρP w y0 y1 yo yn eo en lx ml d k b0 o0))
    rw [hv 5 (by omega), hv 6 (by omega)]; exact hb
  · show fG (yP y0 y1 d) (tP' d) (2000 + i) [j] = _
    rw [fG_t, bs_t]; rfl
  · simp at hz
    rcases hz with rfl | rfl | rfl | rfl | rfl
    · rfl
    · rfl
    · rfl
    · exact s1
    · exact s2

theorem playC_rel {pvv ev mv : Value} (hp : IsStr pvv y0 yo yn) (he : IsStr ev y1 eo en) (hm : CRel { m := fun _ => none, env := ρP w y0 y1 yo yn eo en lx ml d k b0 o0 } (moveSl k) mv) (hms : scal mv = true) :
    ARel { m := fun _ => none, env := ρP w y0 y1 yo yn eo en lx ml d k b0 o0 } (.agg (playC k)) (.agg #[pvv, ev, .bool (decide (lx ≠ 0)), mv]) := by
  have hs1 : scal pvv = true := by obtain ⟨l, rfl, _⟩ := hp; rfl
  have hs2 : scal ev = true := by obtain ⟨l, rfl, _⟩ := he; rfl
  have lt : ∀ i, i < 6 → (vE i).val (ρP w y0 y1 yo yn eo en lx ml d k b0 o0) = [yo, yn, eo, en, lx, ml].getD i 0 := fun i hi => by
    show vP y0 y1 yo yn eo en lx ml d k i = _
    unfold vP bvP
    rw [if_pos (by omega), if_pos (by omega)]
  refine ⟨_, rfl, ⟨ot_rel (y := y0) ?_ fun j => ?_, ot_rel (y := y1) ?_ fun j => ?_, rfl, hm, trivial⟩, fun z hz => ?_⟩
  · show IsStr pvv y0 ((vE 0).val _) ((vE 1).val _)
    rw [lt 0 (by omega), lt 1 (by omega)]; exact hp
  · show fG (yP y0 y1 d) (tP' d) (1000 + 0) [j] = _
    rw [fG_y, bs_y (by omega)]; rfl
  · show IsStr ev y1 ((vE 2).val _) ((vE 3).val _)
    rw [lt 2 (by omega), lt 3 (by omega)]; exact he
  · show fG (yP y0 y1 d) (tP' d) (1000 + 1) [j] = _
    rw [fG_y, bs_y (by omega)]; rfl
  · simp at hz
    rcases hz with rfl | rfl | rfl | rfl
    · exact hs1
    · exact hs2
    · rfl
    · exact hms

/-- The rows that are handed. -/
theorem rows_rel (hkd : k.getD 0 ≤ 8) (hr : ∀ i, i < k.getD 0 → IsMv w (cellsAt w b0 (o0 + 5 * i) 5) (d i)) :
    ∀ r l, rowsP k r = some l → ∀ j c, l[j]? = some c → ∃ v, w.cell? ⟨((ρP w y0 y1 yo yn eo en lx ml d k b0 o0).out r).1, ((ρP w y0 y1 yo yn eo en lx ml d k b0 o0).out r).2 + j, none⟩ = some v ∧ CRel { m := fun _ => none, env := ρP w y0 y1 yo yn eo en lx ml d k b0 o0 } c v ∧ scal v = true := by
  intro r l hrl j c hj
  unfold rowsP at hrl
  cases h9 : Nat.beq r 9 with
  | false => rw [h9] at hrl; cases hrl
  | true =>
    rw [h9] at hrl
    simp only [cond_true, Option.some.injEq] at hrl; subst hrl
    obtain ⟨i, j', e1, e2, e3, e4⟩ := rowC_get _ _ _ _ hj
    rw [Nat.zero_add] at e4
    obtain ⟨v, q1, q2, q3⟩ := row_rel (y0 := y0) (y1 := y1) (yo := yo) (yn := yn) (eo := eo) (en := en) (lx := lx) (ml := ml) (k := k) (o0 := o0) (by omega) e2 e4 (hr i e3)
    refine ⟨v, ?_, q2, q3⟩
    show w.cell? ⟨b0, o0 + j, none⟩ = some v
    rw [e1, ← Nat.add_assoc]; exact q1
end
end Go.Proofs.Tryz
