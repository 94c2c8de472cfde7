/- On the seat of the open Play statements: IsName by its contract, the program's and the reference's. On the seat of the open Play statements: Draw, SameInts and IsName by contract. -/
import Derived.Test.YthlmjjdlmidnlaaGreatDoorArIn1
import Derived.Test.YthlmjjdlmidnlaaGreatDoorArC
import Derived.Test.YthlmjjdlmidnlaaGreatDoorArQ2
namespace Go.Proofs.Tryz.Nm
open Go Go.Am
set_option maxRecDepth 100000

/-- Is a byte one of a name, at a place? -/
def clsV (i : Nat) (b : Int) : Int :=
  let rest : Int := if i = 0 then 0 else if b = 95 then 1 else if 48 ≤ b then (if b ≤ 57 then 1 else 0) else 0
  let low : Int := if 97 ≤ b then (if b ≤ 122 then 1 else rest) else rest
  if 65 ≤ b then (if b ≤ 90 then 1 else low) else low
def aV (y : Int → Int) (o : Int) : Nat → Int
  | 0 => 1
  | i + 1 => if aV y o i = 1 then clsV i (y (o + i)) else 0
def badV (y : Int → Int) (o n : Int) : Nat → Int
  | 0 => 0
  | m + 1 => if n ≤ ((24 - (m + 1) : Nat) : Int) then 0 else if aV y o (24 - m) = 1 then badV y o n m else 1
/-- Is it a name? -/
def nmB (y : Int → Int) (o n : Int) : Bool := if n ≤ 0 then false else if n ≤ 24 then decide (badV y o n 24 = 0) else false

abbrev fN (y : Int → Int) : Nat → List Int → Int := fG (fun _ => y) (fun _ _ => 0)
def vN (y : Int → Int) (o n : Int) (m : Nat) : Int :=
  if m = 2 then o else if m = 3 then n else if m < 300 then 0 else if m < 326 then aV y o (m - 300) else if m = 950 then badV y o n 24 else 0
def ρN (w : World) (y : Int → Int) (o n : Int) : Env := ⟨vN y o n, fN y, fun _ => (0, 0), memOf w⟩

section
variable {w : World} {y : Int → Int} {o n : Int}
theorem x_yO : yO.val (ρN w y o n) = o := (rfl)
theorem x_yN : yN.val (ρN w y o n) = n := (rfl)
theorem x_by (i : Nat) : (byE yO i).val (ρN w y o n) = y (o + i) := by
  unfold byE; rw [appE_val]
  show fG (fun _ => y) (fun _ _ => 0) (1000 + 0) [o + (i : Int)] = _
  rw [fG_y, bs_y (by omega)]
theorem x_A {i : Nat} (hi : i < 26) : (sA i).val (ρN w y o n) = aV y o i := by
  show vN y o n (300 + i) = _
  unfold vN
  rw [if_neg (by omega), if_neg (by omega), if_neg (by omega), if_pos (by omega), show 300 + i - 300 = i by omega]
theorem ev_cls (i : Nat) : (clsT i).eval (ρN w y o n) = clsV i (y (o + i)) := by
  unfold clsT clsV
  cases i with
  | zero => simp only [ev_le, ev_lf, x_by, val_L]; rfl
  | succ i => simp only [ev_le, ev_eq, ev_lf, x_by, val_L, if_neg (Nat.succ_ne_zero i)]
theorem ev_dA : ∀ i, i < 26 → (dA i).eval (ρN w y o n) = aV y o i
  | 0, _ => rfl
  | i + 1, h => by
    simp only [dA, ev_eq, ev_lf, val_L, x_A (show i < 26 by omega), ev_cls]; rfl
theorem ev_dNm : ∀ m, (dNm m).eval (ρN w y o n) = badV y o n m
  | 0 => rfl
  | m + 1 => by
    simp only [dNm, badV, ev_le, ev_eq, ev_lf, val_L, x_yN, x_A (show 24 - m < 26 by omega), ev_dNm m]

theorem blt_true {a b : Nat} (h : Nat.blt a b = true) : a < b := by simpa [Nat.blt, Nat.ble_eq, Nat.succ_le_iff] using h
theorem blt_false {a b : Nat} (h : Nat.blt a b = false) : ¬ a < b := fun h' => by
  have : Nat.blt a b = true := by simp [Nat.blt, Nat.ble_eq]; omega
  rw [this] at h; cases h
theorem defN_ok : ∀ m d, defN m = some d → (ρN w y o n).v m = d.eval (ρN w y o n) := by
  intro m d hd
  show vN y o n m = _
  unfold defN at hd
  cases h1 : Nat.blt m 300 with
  | true => rw [h1] at hd; cases hd
  | false =>
  rw [h1] at hd
  simp only [cond_false] at hd
  have n1 := blt_false h1
  cases h2 : Nat.blt m 326 with
  | true =>
    rw [h2] at hd
    simp only [cond_true, Option.some.injEq] at hd; subst hd
    have n2 := blt_true h2
    rw [ev_dA (m - 300) (by omega)]
    unfold vN
    rw [if_neg (by omega), if_neg (by omega), if_neg (by omega), if_pos (by omega)]
  | false =>
  rw [h2] at hd
  simp only [cond_false] at hd
  cases h3 : Nat.beq m 950 with
  | true =>
    rw [h3] at hd
    simp only [cond_true, Option.some.injEq] at hd; subst hd
    rw [Nat.eq_of_beq_eq_true h3, ev_dNm]; rfl
  | false => rw [h3] at hd; cases hd

theorem primsI (g : Nat → List Int → Int) (B : Nat) : PrimsOk (cxI g) prog B := tokBase cx.prim g defN noRows

theorem run_N {f : FuncId} {ann : Ann} {l0 : Asg} {b : Bool} (hk : runI (fN y) f ann l0 (orDead (fN y) b) = true) (h : Laid w) (hl : AsgOk (ρN w y o n) l0) {v : Value} (hs : IsStr v y o n) :
    CallRet prog f #[v] w fun v' w' => v' = .bool b ∧ Kept w w' := by
  have hi : Inv (cxI (fN y)) w.heap.size { m := fun _ => none, env := ρN w y o n } ⟨.nil, 0⟩ w := inv0 _ rfl rfl defN_ok h (fun k l hk => by cases hk)
  obtain ⟨s, rfl, hn, hy⟩ := hs
  have ha : All2 (VRel { m := fun _ => none, env := ρN w y o n }) [strC yO yN] (#[.string ⟨s.toArray⟩] : Array Value).toList := ⟨⟨s, rfl, hn, fun j c hc => by
    rw [hy j c hc]
    show _ = fG (fun _ => y) (fun _ _ => 0) (1000 + 0) [o + (j : Int)]
    rw [fG_y, bs_y (by omega)]⟩, trivial⟩
  obtain ⟨l', h1, h2⟩ := symL (c := cxI (fN y)) (K := orDead (fN y) b) (tl := noTails) (ann := ann) (n := 100) (m := 60) cxWOk (primsI _ _) rfl hk hl (Nat.le_refl _) hi ha
  refine h2.mono ?_
  rintro v' w' ⟨v, st', β', q1, q2, q3⟩
  refine ⟨?_, Kept.ofNil q3⟩
  have hβ : β'.env = ρN w y o n := q3.ext.env
  have fs : Facts (withT (cxI (fN y)) l') β'.env := by rw [hβ]; exact facts_with hi.facts h1
  unfold orDead at q1
  cases hd : dead (withT (cxI (fN y)) l') l' with
  | true => exact absurd (by rw [hβ]; exact h1) (dead_no fs hd)
  | false =>
    rw [hd] at q1
    simp only [Bool.false_or] at q1
    have hv := eqVv_ok q1
    subst hv
    exact q2

theorem name_of {f : FuncId} {ann : Ann} (r0 : runI (fN y) f ann [(.le yN (L 0), true), (.eq yN (L 0), true)] (orDead (fN y) false) = true)
    (r1 : runI (fN y) f ann [(.le yN (L 0), false), (.eq yN (L 0), false), (.le yN (L 24), false)] (orDead (fN y) false) = true)
    (r2 : runI (fN y) f ann ((.eq yN (L 0), false) :: (.eq (.var 950) (L 0), true) :: nmF) (orDead (fN y) true) = true)
    (r3 : runI (fN y) f ann ((.eq yN (L 0), false) :: (.eq (.var 950) (L 0), false) :: nmF) (orDead (fN y) false) = true)
    (h : Laid w) {v : Value} (hs : IsStr v y o n) : CallRet prog f #[v] w fun v' w' => v' = .bool (nmB y o n) ∧ Kept w w' := by
  have hn0 : 0 ≤ n := by obtain ⟨l, _, e, _⟩ := hs; omega
  have x950 : (E.var 950).val (ρN w y o n) = badV y o n 24 := (rfl)
  by_cases h0 : n ≤ 0
  · have e : nmB y o n = false := by rw [nmB, if_pos h0]
    rw [e]
    exact run_N r0 h (asC (h_le h0) (asC (h_eq (by show n = 0; omega)) asN)) hs
  by_cases h1 : n ≤ 24
  case neg =>
    have e : nmB y o n = false := by rw [nmB, if_neg h0, if_neg h1]
    rw [e]
    exact run_N r1 h (asC (h_nle h0) (asC (h_ne (by show n ≠ 0; omega)) (asC (h_nle h1) asN))) hs
  have hF : AsgOk (ρN w y o n) nmF := asC (h_eq (by show aV y o 0 = 1; rfl)) (asC (h_nle h0) (asC (h_le h1) asN))
  by_cases hb : badV y o n 24 = 0
  · have e : nmB y o n = true := by rw [nmB, if_neg h0, if_pos h1, decide_eq_true hb]
    rw [e]
    exact run_N r2 h (asC (h_ne (by show n ≠ 0; omega)) (asC (h_eq hb) hF)) hs
  · have e : nmB y o n = false := by rw [nmB, if_neg h0, if_pos h1, decide_eq_false hb]
    rw [e]
    exact run_N r3 h (asC (h_ne (by show n ≠ 0; omega)) (asC (h_ne hb) hF)) hs

theorem name_ret (h : Laid w) {v : Value} (hs : IsStr v y o n) : CallRet prog 41 #[v] w fun v' w' => v' = .bool (nmB y o n) ∧ Kept w w' :=
  name_of (nameNone _) (nameLong _) (nameYes _) (nameNo _) h hs
theorem nameR_ret (h : Laid w) {v : Value} (hs : IsStr v y o n) : CallRet prog 42 #[v] w fun v' w' => v' = .bool (nmB y o n) ∧ Kept w w' :=
  name_of (refNone _) (refLong _) (refYes _) (refNo _) h hs
end
end Go.Proofs.Tryz.Nm

namespace Go.Proofs.Tryz
open Go Go.Am Go.RowKit Go.Dr
set_option maxRecDepth 100000

theorem fn38 : cx.fn 38 = some f38 := by kernel_rfl
theorem fn40 : cx.fn 40 = some f40 := by kernel_rfl
theorem fn66 : cx.fn 66 = some f66 := by kernel_rfl
theorem body38 : f38.body.isSome = true := by kernel_rfl
theorem body40 : f40.body.isSome = true := by kernel_rfl
theorem body66 : f66.body.isSome = true := by kernel_rfl

/-- A new block behind a call that keeps all: it is never written again. -/
theorem frozenOf {cx : Cx} {B fl : Nat} {β : Be} {st : St} {w w' : World} (h : Inv cx B β st w) (hk : Kept w w') {b : Nat} (hb : w.heap.size ≤ b) : Am.Good cx B fl β st w (frz β w' b) st w' := by
  have hz : ∀ b o v, β.z b o = some v → b < w.heap.size := fun b o v hv => cell_under (h.still b o v hv).1
  have hext : Ext β (frz β w' b) := ⟨fun _ _ h => h, rfl, fun c o v hv => by
    have := hz c o v hv
    show (if c = b then w'.cell? ⟨c, o, none⟩ else β.z c o) = some v
    rw [if_neg (by omega)]; exact hv⟩
  refine ⟨hext, fun _ _ => rfl, ⟨fun id p hp => ?_, fun id o ho => ?_, h.inj, fun c o v hv => ?_, Nat.le_trans h.size hk.size, h.facts, fun c o v hv => ?_⟩, fun _ _ => rfl, Nat.le_refl _, hk.os, hk.tape, hk.output, hk.size, fun k hk' _ => hk.block k hk', fun id o b e h1 h2 h3 => .inr ⟨id, o, e, h1, h2, h3⟩, fun c o v hv => ?_⟩
  · have := h.low id p hp; exact ⟨this.1, this.2.1, Nat.lt_of_lt_of_le this.2.2 hk.size⟩
  · obtain ⟨c, e, ob', hc, hh, hr⟩ := h.live id o ho
    exact ⟨c, e, ob', hc, (hk.block c (h.low _ _ hc).2.2).trans hh, hr.mono hext⟩
  · obtain ⟨h1, h2⟩ := h.base c o v hv
    exact ⟨h1, by rw [← h2]; simp only [World.cell?]; rw [hk.block c (Nat.lt_of_lt_of_le h1 h.size)]⟩
  · have hv' : (if c = b then w'.cell? ⟨c, o, none⟩ else β.z c o) = some v := hv
    by_cases e : c = b
    · rw [if_pos e] at hv'
      refine ⟨hv', fun id p hp => ?_⟩
      have := (h.low id p hp).2.2; omega
    · rw [if_neg e] at hv'
      obtain ⟨g1, g2⟩ := h.still c o v hv'
      refine ⟨?_, g2⟩
      rw [← g1]; simp only [World.cell?]; rw [hk.block c (hz c o v hv')]
  · have hv' : (if c = b then w'.cell? ⟨c, o, none⟩ else β.z c o) = some v := hv
    by_cases e : c = b
    · exact .inr (by omega)
    · rw [if_neg e] at hv'; exact .inl hv'

/-! ### the symbols -/
def kE : E := appE 70 []
def nE : E := appE 71 []
def lE : E := appE 73 []
def drC : C := .ost 7 (L 0) nE
def stC : C := .ot 5 (L 0) lE
/-- The functions that symbols stand for. -/
def fNm (y : Int → Int) (len key n : Int) : Nat → List Int → Int
  | 70, _ => key
  | 71, _ => n
  | 73, _ => len
  | 1005, l => y (l.headD 0)
  | 2007, l => (drawL key n.toNat)[(l.headD 0).toNat]?.getD 0
  | _, _ => 0

def pNm (b : Bool) (_ : Nat) (args : List V) (st : St) : Option (V × St) := match args with
  | [.a (.c (.ot k o n))] => bif Nat.beq k 5 && E.same o (L 0) && E.same n lE then some (.a (.c (.sc (.bool b))), st) else none
  | _ => none
def pDr (two : Bool) (_ : Nat) (args : List V) (st : St) : Option (V × St) := match args with
  | [.a (.c (.sy .i64 a)), .a (.c (.sy .i64 b))] => bif E.same a kE && E.same b nE then some (bif two then .tup [.c drC, .c (.sc (.int .i64 0))] else .a (.c drC), st) else none
  | _ => none
def pSm (_ : Nat) (args : List V) (st : St) : Option (V × St) := match args with
  | [.a (.c (.ost k o n)), .a (.c (.ost k' o' n'))] => bif Nat.beq k 7 && Nat.beq k' 7 && E.same o (L 0) && E.same o' (L 0) && E.same n nE && E.same n' nE then some (.a (.c (.sc (.bool true))), st) else none
  | _ => none

section
variable {q : FuncId → Option PT} {d : Nat → Option DT} {o : Nat → Option (List C)} {B : Nat} {y : Int → Int} {len key n : Int}

theorem pokNm {f : FuncId} {b : Bool} (hc : ∀ (v : Value) (w : World), Laid w → IsStr v y 0 len → CallRet prog f #[v] w fun v' w' => v' = .bool b ∧ Kept w w') : POk (cxW q (fNm y len key n) d o) B f (pNm b) := by
  intro fl β st w args args' v st' hi hfl ha hpv
  have hL : Laid w := laid_base (cx' := cxW q (fNm y len key n) d o) rfl hi
  have hfn : β.env.f = fNm y len key n := hi.facts.fns
  unfold pNm at hpv
  split at hpv
  case h_2 => cases hpv
  rename_i k oo nn
  cases hn : (Nat.beq k 5 && E.same oo (L 0) && E.same nn lE) with
  | false => rw [hn] at hpv; cases hpv
  | true =>
  rw [hn] at hpv
  simp only [cond_true, Option.some.injEq, Prod.mk.injEq] at hpv
  obtain ⟨rfl, rfl⟩ := hpv
  simp only [Bool.and_eq_true] at hn
  obtain ⟨⟨h1, h2⟩, h3⟩ := hn
  obtain rfl := Nat.eq_of_beq_eq_true h1
  obtain rfl := E.same_eq h2
  obtain rfl := E.same_eq h3
  obtain ⟨l⟩ := args'
  match l, ha with
  | [u], hr =>
    obtain ⟨s, hu, hsz, hby⟩ := hr.1
    subst hu
    have hlen : lE.val β.env = len := by unfold lE; rw [appE_val, hfn]; rfl
    refine prim_kept hi (v' := .bool b) rfl (hc _ w hL ⟨s, rfl, by rw [hsz, hlen], fun j c hj => ?_⟩)
    rw [hby j c hj, hfn]; rfl

theorem drC_rel {β : Be} (hfn : β.env.f = fNm y len key n) (h0 : 0 ≤ n) {w w' : World} {v : Value} (hown : w'.ownsRow w.heap.size 3 1 v n.toNat (vsOf (drawL key n.toNat))) :
    ∃ g, w.heap.size ≤ g ∧ CRel (frz β w' g) drC v := by
  have hne : nE.val β.env = n := by unfold nE; rw [appE_val, hfn]; rfl
  have hx := hown
  rcases hown.2 with ⟨rfl, hn⟩ | ⟨g, cap, cur, rfl, hb, hg, hnc, hcm, hcs, htake⟩
  · refine ⟨w.heap.size, Nat.le_refl _, none, 0, 0, rfl, Nat.le_refl _, ?_, fun h => absurd rfl h⟩
    show ((0 : Nat) : Int) = nE.val β.env
    rw [hne]; omega
  · refine ⟨g, hb, some ⟨g, 0, none⟩, n.toNat, cap, rfl, hnc, ?_, fun _ => ⟨g, 0, rfl, fun j hj => .inr ?_⟩⟩
    · show ((n.toNat : Nat) : Int) = nE.val β.env
      rw [hne]; omega
    · show (if g = g then w'.cell? ⟨g, 0 + j, none⟩ else β.z g (0 + j)) = some (.int .i64 (β.env.f (2000 + 7) [(L 0).val β.env + (j : Int)]))
      rw [if_pos rfl, Nat.zero_add, hx.cellAt j (by omega), hfn]
      have e : fNm y len key n (2000 + 7) [(L 0).val β.env + (j : Int)] = (drawL key n.toNat)[j]?.getD 0 := by
        show (drawL key n.toNat)[((0 : Int) + (j : Int)).toNat]?.getD 0 = _
        congr 2; omega
      rw [e]
      simp only [vsOf, List.getElem?_map]
      rw [List.getElem?_eq_getElem (by rw [length_drawL]; exact hj)]; rfl

theorem args_key {β : Be} (hfn : β.env.f = fNm y len key n) {x z : E} (h1 : E.same x kE = true) (h2 : E.same z nE = true) {args' : Array Value} (ha : All2 (VRel β) [.a (.c (.sy .i64 x)), .a (.c (.sy .i64 z))] args'.toList) : args' = #[vi key, vi n] := by
  obtain rfl := E.same_eq h1
  obtain rfl := E.same_eq h2
  obtain ⟨l⟩ := args'
  match l, ha with
  | [u, v], hr =>
    have e1 : u = .int .i64 (kE.val β.env) := hr.1
    have e2 : v = .int .i64 (nE.val β.env) := hr.2.1
    rw [e1, e2]
    unfold kE nE
    rw [appE_val, appE_val, hfn]; rfl

theorem pokDr (h1 : 1 ≤ key) (h2 : key ≤ 2147483398) (h3 : 0 ≤ n) (h4 : n ≤ 256) : POk (cxW q (fNm y len key n) d o) B 38 (pDr true) := by
  intro fl β st w args args' v st' hi hfl ha hpv
  have hfn : β.env.f = fNm y len key n := hi.facts.fns
  unfold pDr at hpv
  split at hpv
  case h_2 => cases hpv
  rename_i x z
  cases hn : (E.same x kE && E.same z nE) with
  | false => rw [hn] at hpv; cases hpv
  | true =>
  rw [hn] at hpv
  simp only [cond_true, Option.some.injEq, Prod.mk.injEq] at hpv
  obtain ⟨rfl, rfl⟩ := hpv
  simp only [Bool.and_eq_true] at hn
  obtain rfl := args_key hfn hn.1 hn.2 ha
  obtain ⟨c, hc⟩ := Option.isSome_iff_exists.1 body38
  have hcall := draw_w key n.toNat w h1 h2 (by omega)
  rw [Int.toNat_of_nonneg h3] at hcall
  refine .inr ⟨callFunc_enter cxOk fn38 hc _ w, hcall.mono ?_⟩
  rintro e w' ⟨v, rfl, hown, hb⟩
  have hk := keptOf hb
  obtain ⟨g, hg, hr⟩ := drC_rel (β := β) hfn h3 hown
  exact ⟨_, rfl, frz β w' g, ⟨_, rfl, hr, rfl, trivial⟩, frozenOf hi hk hg⟩

theorem pokDrR (h1 : 1 ≤ key) (h2 : key ≤ 2147483398) (h3 : 0 ≤ n) (h4 : n ≤ 256) : POk (cxW q (fNm y len key n) d o) B 40 (pDr false) := by
  intro fl β st w args args' v st' hi hfl ha hpv
  have hfn : β.env.f = fNm y len key n := hi.facts.fns
  unfold pDr at hpv
  split at hpv
  case h_2 => cases hpv
  rename_i x z
  cases hn : (E.same x kE && E.same z nE) with
  | false => rw [hn] at hpv; cases hpv
  | true =>
  rw [hn] at hpv
  simp only [cond_true, cond_false, Option.some.injEq, Prod.mk.injEq] at hpv
  obtain ⟨rfl, rfl⟩ := hpv
  simp only [Bool.and_eq_true] at hn
  obtain rfl := args_key hfn hn.1 hn.2 ha
  obtain ⟨c, hc⟩ := Option.isSome_iff_exists.1 body40
  have hcall := drawR_w key n.toNat w h1 h2 (by omega)
  rw [Int.toNat_of_nonneg h3] at hcall
  refine .inr ⟨callFunc_enter cxOk fn40 hc _ w, hcall.mono ?_⟩
  rintro e w' ⟨v, rfl, hown, hb⟩
  have hk := keptOf hb
  obtain ⟨g, hg, hr⟩ := drC_rel (β := β) hfn h3 hown
  exact ⟨_, rfl, frz β w' g, hr, frozenOf hi hk hg⟩

theorem pokSm (h4 : n ≤ 256) : POk (cxW q (fNm y len key n) d o) B 66 pSm := by
  intro fl β st w args args' v st' hi hfl ha hpv
  have hfn : β.env.f = fNm y len key n := hi.facts.fns
  unfold pSm at hpv
  split at hpv
  case h_2 => cases hpv
  rename_i k oo nn k' oo' nn'
  cases hn : (Nat.beq k 7 && Nat.beq k' 7 && E.same oo (L 0) && E.same oo' (L 0) && E.same nn nE && E.same nn' nE) with
  | false => rw [hn] at hpv; cases hpv
  | true =>
  rw [hn] at hpv
  simp only [cond_true, Option.some.injEq, Prod.mk.injEq] at hpv
  obtain ⟨rfl, rfl⟩ := hpv
  simp only [Bool.and_eq_true] at hn
  obtain ⟨⟨⟨⟨⟨c1, c2⟩, c3⟩, c4⟩, c5⟩, c6⟩ := hn
  obtain rfl := Nat.eq_of_beq_eq_true c1
  obtain rfl := Nat.eq_of_beq_eq_true c2
  obtain rfl := E.same_eq c3
  obtain rfl := E.same_eq c4
  obtain rfl := E.same_eq c5
  obtain rfl := E.same_eq c6
  obtain ⟨l⟩ := args'
  match l, ha with
  | [u, u'], hr =>
    obtain ⟨a, m, c, rfl, _, hm, hc⟩ := hr.1
    obtain ⟨a', m', c', rfl, _, hm', hc'⟩ := hr.2.1
    have hmm : m' = m := by omega
    subst hmm
    have hne : nE.val β.env = n := by unfold nE; rw [appE_val, hfn]; rfl
    refine prim_kept hi (v' := .bool true) rfl ?_
    obtain ⟨bd, hbd⟩ := Option.isSome_iff_exists.1 body66
    by_cases h0 : m' = 0
    · subst h0
      refine .inr ⟨callFunc_enter cxOk fn66 hbd _ w, (same_none a a' c c' w).mono ?_⟩
      rintro e w' ⟨rfl, hb⟩
      exact ⟨_, rfl, rfl, keptOf hb⟩
    · obtain ⟨b1, o1, rfl, hj⟩ := hc h0
      obtain ⟨b2, o2, rfl, hj'⟩ := hc' h0
      have cell : ∀ {b1 o1 : Nat}, (∀ j, j < m' → (β.env.mem b1 (o1 + j) = some (.int .i64 (β.env.f (2000 + 7) [(L 0).val β.env + (j : Int)])) ∨ β.z b1 (o1 + j) = some (.int .i64 (β.env.f (2000 + 7) [(L 0).val β.env + (j : Int)])))) → ∀ j, j < m' → w.cell? ⟨b1, o1 + j, none⟩ = some (.int .i64 (β.env.f (2000 + 7) [(L 0).val β.env + (j : Int)])) := fun h j hjm => by
        rcases h j hjm with q | q
        · exact (hi.base _ _ _ q).2
        · exact (hi.still _ _ _ q).1
      refine .inr ⟨callFunc_enter cxOk fn66 hbd _ w, (same_some b1 o1 b2 o2 m' c c' (fun j => β.env.f (2000 + 7) [(L 0).val β.env + (j : Int)]) w (by omega) (cell hj) (cell hj')).mono ?_⟩
      rintro e w' ⟨rfl, hb⟩
      exact ⟨_, rfl, rfl, keptOf hb⟩
end
end Go.Proofs.Tryz
