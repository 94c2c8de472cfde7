/- On the seat of the open Play statements: a play, checked by the program: symbols, heads, what the kernel runs. On the seat of the open Play statements: the reference's check of pitches: symbols, heads, runs. Plain: what the check of a play answers. On the seat of the open Play statements: the functions and the symbols of a play. -/
import Derived.Test.YthlmjjdlmidnlaaGreatDoorArMc
import Derived.Test.YthlmjjdlmidnlaaGreatDoorArH
import Derived.Test.YthlmjjdlmidnlaaGreatDoorAmGc
namespace Go.Proofs.Tryz
open Go Go.Am
set_option maxRecDepth 100000

/-- the symbols: the pitches' place and length, the event's, whether it is late, how many moves (where these are not told) -/
def yO : E := vE 0
def yN : E := vE 1
def eO : E := vE 2
def eN : E := vE 3
def lX : E := vE 4
def mL : E := vE 5
/-- a move's: from, to, whether it is an out, the string's place and length, the touches' place and number -/
def pv (i j : Nat) : E := vE (10 + 10 * i + j)
def bP (i : Nat) : E := appE 1000 [.add yO (L i)]
def eB : E := appE 1001 [.add eO (L 0)]
def inP (i : Nat) : E := appE 61 [bP i]
def lastE : E := wE (.sub yN (L 1))
def sGo (i : Nat) : E := .var (100 + i)
def dLast (i : Nat) : DT := .node (.eq (L i) lastE) (dLf 1) (dLf 0)
def dGo : Nat → DT
  | 0 => dLf 1
  | i + 1 => .node (.eq (sGo i) (L 1)) (.node (.le (bP i) (L 127)) (.node (.eq (inP i) (L 0)) (dLf 0) (.node (.eq (bP i) (L 88)) (dLast i) (.node (.eq (bP i) (L 72)) (dLast i) (dLf 1)))) (dLf 0)) (dLf 0)
def dErr : Nat → DT
  | 0 => dLf 0
  | m + 1 => .node (.le yN (L (24 - (m + 1 : Nat) : Nat))) (dLf 0) (.node (.eq (sGo (24 - m)) (L 1)) (dErr m) (dLf 1))

/-- the moves -/
def mvE (i : Nat) : MvE := ⟨pv i 0, pv i 1, pv i 2, 2 + i, pv i 3, pv i 4, i, pv i 5, pv i 6⟩
def mvA (i : Nat) : E := mvApp (mvE i)
def mvC (i : Nat) : List C := [syC (pv i 0), syC (pv i 1), .sb (pv i 2), .ot (2 + i) (pv i 3) (pv i 4), .ost i (pv i 5) (pv i 6)]
def rowC : Nat → Nat → List C
  | 0, _ => []
  | n + 1, i => mvC i ++ rowC n (i + 1)
def mvsD : Nat → Nat → DT
  | 0, _ => dLf 0
  | n + 1, 0 => .node (.eq (mvA 0) (L 0)) (mvsD n 1) (.leaf (mvA 0))
  | n + 1, i + 1 => .node (.eq (mvA (i + 1)) (L 0)) (.node (.le (pv i 0) (pv (i + 1) 0)) (dLf 11) (mvsD n (i + 2))) (.leaf (mvA (i + 1)))
def evIn : E := appE 62 (eB :: bytesE [75, 87, 72, 73, 88, 78, 89])
/-- what comes behind the pitches: n moves; too many of them -/
def evD (d : DT) : DT := .node (.eq eN (L 0)) d (.node (.eq eN (L 1)) (.node (.le (L 0) evIn) d (dLf 13)) (dLf 13))
def restD (n : Nat) : DT := evD (mvsD n 0)
def manyD : DT := evD (dLf 5)
/-- what a run ends with: n moves, or more than four -/
def endD : Option Nat → DT
  | some n => restD n
  | none => manyD
def defP (k : Option Nat) (m : Nat) : Option DT :=
  bif Nat.blt m 100 then none else bif Nat.blt m 125 then some (dGo (m - 100)) else bif Nat.beq m 920 then some (dErr 24) else bif Nat.beq m 900 then some (endD k) else none

def moveSl : Option Nat → C
  | some 0 => .slx (L 0)
  | some (n + 1) => .osl 9 0 (n + 1)
  | none => .slx mL
def playC (k : Option Nat) : List C := [.ot 0 yO yN, .ot 1 eO eN, .sb lX, moveSl k]
def rowsP (k : Option Nat) (r : Nat) : Option (List C) := bif Nat.beq r 9 then some (rowC (k.getD 0) 0) else none
def mkT {α : Type} : List (Nat × α) → T α
  | [] => .nil
  | (n, x) :: l => (mkT l).set n (some x)
def hpP (k : Option Nat) : O := .cells (playC k) 24 false
def headP (k : Option Nat) (i : Nat) : Fr × St := (⟨95, mkT [(1, vc (.ptr 0 0)), (16, vc (.ptr 1 0))]⟩, ⟨mkT [(0, hpP k), (1, .sot 0 yO yN i)], 50⟩)
def goF : Nat → Asg
  | 0 => [(.eq (sGo 0) (L 1), true)]
  | i + 1 => (.eq (sGo (i + 1)) (L 1), true) :: goF i
def factP : Nat → Asg
  | 0 => goF 0
  | i + 1 => (.le yN (L i), false) :: goF (i + 1)
def outOk (k : Option Nat) : Exit × Fr × St := (.exit 0, ⟨95, mkT [(1, vc (.ptr 0 0))]⟩, ⟨mkT [(0, hpP k)], 50⟩)
def outBad : Exit × Fr × St := (.ret, ⟨95, mkT [(2, vc (iC 14))]⟩, ⟨.nil, 50⟩)
def tailP (k : Option Nat) : Heads := { n := 1, head := fun _ => (⟨95, mkT [(1, vc (.ptr 0 0))]⟩, ⟨mkT [(0, hpP k)], 50⟩), facts := fun _ => [], outs := some [(.ret, ⟨95, mkT [(2, vc (syC (.var 900)))]⟩, ⟨.nil, 500⟩)] }
def annP (k : Option Nat) (o : Exit × Fr × St) : Ann := fun g r => bif Nat.beq g 15 then (bif Nat.beq r 4 then some { n := 25, head := headP k, facts := factP, outs := some [o] } else bif Nat.beq r 1009 then some (tailP k) else none) else none

noncomputable def tP : FuncId → Option PT := addP 69 pRune (addP 189 pIdx (addP 18 pMv (addP 20 pMv cx.prim)))
noncomputable def cxP (k : Option Nat) (g : Nat → List Int → Int) : Cx := cxW tP g (defP k) (rowsP k)
def argsP (k : Option Nat) : List V := [.a (.agg (playC k))]
noncomputable def runP (k : Option Nat) (g : Nat → List Int → Int) (o : Exit × Fr × St) (l0 : Asg) (K : V → St → Bool) : Bool :=
  paths 30 l0 (askCallF (cxP k g) (annP k o) noTails 200 0 15 (argsP k) ⟨.nil, 0⟩) fun l => callG (withT (cxP k g) l) (runL (cxP k g) (annP k o) 200 noTails l) 0 15 (argsP k) ⟨.nil, 0⟩ K
def isV (c : C) : V → St → Bool := fun v _ => eqVv v (vc c)
def okF : Asg := [(.eq (.var 920) (L 0), true), (.le yN (L 24), true)]
def badF : Asg := [(.eq (.var 920) (L 0), false), (.le yN (L 24), true)]
end Go.Proofs.Tryz

namespace Go.Proofs.Tryz
open Go Go.Am
set_option maxRecDepth 100000

/-! ### a byte in a string -/
def hasI : List Int → Int
  | b :: s => if b ∈ s then 1 else 0
  | [] => 0
def hasD : List UInt8 → DT
  | [] => dLf 0
  | c :: l => .node (.eq (L (Int.ofNat c.toNat)) rX) (dLf 1) (hasD l)
def hasS : List (List UInt8) := [[66, 67, 83, 70, 88, 72], [88, 72], [75, 87, 72, 73, 88, 78, 89]]
def strS (l : List UInt8) : ByteArray := ⟨l.toArray⟩
def argsHas (l : List UInt8) : List V := [.a (.c (.sc (.string (strS l)))), .a (.c (.sy .u8 rX))]
noncomputable def cxB : Cx := cxW cx.prim (fun _ _ => 0) noDefs noRows
noncomputable def runHas (l : List UInt8) : Bool := runOne 100 20 cxB 97 [] (argsHas l) (fun a => isBT cxB a (hasD l))
theorem runHas1 : runHas [66, 67, 83, 70, 88, 72] = true := by kernel_rfl
theorem runHas2 : runHas [88, 72] = true := by kernel_rfl
theorem runHas3 : runHas [75, 87, 72, 73, 88, 78, 89] = true := by kernel_rfl

theorem hasD_ev (x : Int) (g : Nat → List Int → Int) : ∀ l : List UInt8, (hasD l).eval (envV [x] g) = hasI (x :: l.map fun b => (b.toNat : Int))
  | [] => rfl
  | c :: l => by
    have ih := hasD_ev x g l
    simp only [hasD]
    rw [ev_eq, ih]
    show (if ((c.toNat : Nat) : Int) = x then (1 : Int) else _) = _
    simp only [hasI, List.map_cons, List.mem_cons]
    by_cases h : ((c.toNat : Nat) : Int) = x
    · rw [if_pos h, if_pos (.inl h.symm)]
    · rw [if_neg h]
      by_cases h2 : x ∈ l.map fun b => (b.toNat : Int)
      · rw [if_pos h2, if_pos (.inr h2)]
      · rw [if_neg h2, if_neg (fun q => q.elim (fun e => h e.symm) h2)]

theorem has_ret {x : Int} {w : World} (h : Laid w) (l : List UInt8) (hl : l ∈ hasS) : CallRet prog 97 #[.string (strS l), .int .u8 x] w fun v' w' => v' = .bool (decide (hasI (x :: l.map fun b => (b.toNat : Int)) ≠ 0)) ∧ Kept w w' := by
  have hk : runHas l = true := by
    simp only [hasS, List.mem_cons, List.not_mem_nil, or_false] at hl
    rcases hl with rfl | rfl | rfl
    · exact runHas1
    · exact runHas2
    · exact runHas3
  have := run_B (vs := [x]) (fun _ => tokBase _ _ _ _) hk h asN (args' := #[.string (strS l), .int .u8 x]) ⟨rfl, rfl, trivial⟩
  rw [hasD_ev] at this
  refine this.mono fun v' w' ⟨e, hk⟩ => ⟨?_, hk⟩
  rw [e]; congr 1
  simp only [hasI]
  split <;> rfl

def memS (s : ByteArray) : Bool := hasS.any fun l => decide (s.data.toList = l)
def pHas (_ : Nat) (args : List V) (st : St) : Option (V × St) :=
  match args with
  | [.a (.c (.sc (.string s))), .a (.c (.sy .u8 e))] => bif memS s then some (.a (.c (.sb (appE 66 (e :: bytesE s.data.toList)))), st) else none
  | _ => none

theorem bytesE_int (ρ : Env) : ∀ s : List UInt8, (bytesE s).map (E.val ρ) = s.map fun b => (b.toNat : Int)
  | [] => rfl
  | b :: s => by
    show (Int.ofNat b.toNat) :: ((bytesE s).map (E.val ρ)) = _
    rw [bytesE_int ρ s]; rfl

section
variable {q : FuncId → Option PT} {g : Nat → List Int → Int} {d : Nat → Option DT} {o : Nat → Option (List C)} {B : Nat}
theorem pokHas (hg : ∀ l, g 66 l = hasI l) : POk (cxW q g d o) B 97 pHas := by
  intro fl β st w args args' v st' hi hfl ha hpv
  have hL : Laid w := laid_base (cx' := cxW q g d o) rfl hi
  have hfn : β.env.f = g := hi.facts.fns
  unfold pHas at hpv
  obtain ⟨al⟩ := args'
  split at hpv
  case h_2 => cases hpv
  rename_i s e0
  cases hc : memS s with
  | false => rw [hc] at hpv; cases hpv
  | true =>
  rw [hc] at hpv
  simp only [cond_true, Option.some.injEq, Prod.mk.injEq] at hpv
  obtain ⟨rfl, rfl⟩ := hpv
  obtain ⟨l, hl, hs⟩ := List.any_eq_true.1 hc
  have es : s = strS l := by
    obtain ⟨⟨l'⟩⟩ := s
    have := of_decide_eq_true hs
    simp only at this
    subst this; rfl
  match al, ha with
  | [x', y'], hr =>
    have e : x' = _ := hr.1
    have e2 : y' = .int .u8 (e0.val β.env) := hr.2.1
    subst e e2 es
    refine prim_kept hi (v' := .bool (decide (hasI (e0.val β.env :: l.map fun b => (b.toNat : Int)) ≠ 0))) ?_ (has_ret hL l hl)
    show _ = Value.bool (decide ((appE 66 (e0 :: bytesE (strS l).data.toList)).val β.env ≠ 0))
    rw [appE_val, hfn, hg, List.map_cons, bytesE_int]
    have : (strS l).data.toList = l := rfl
    rw [this]
end

/-! ### the pitches, by the reference -/
def has6 (i : Nat) : E := appE 66 (bP i :: bytesE [66, 67, 83, 70, 88, 72])
def has2 (i : Nat) : E := appE 66 (bP i :: bytesE [88, 72])
def dGoR : Nat → DT
  | 0 => dLf 1
  | i + 1 => .node (.eq (sGo i) (L 1)) (.node (.eq (has6 i) (L 0)) (dLf 0) (.node (.eq (has2 i) (L 0)) (dLf 1) (.node (.le lastE (L i)) (dLf 1) (dLf 0)))) (dLf 0)
def defR (m : Nat) : Option DT := bif Nat.blt m 100 then none else bif Nat.blt m 125 then some (dGoR (m - 100)) else bif Nat.beq m 920 then some (dErr 24) else none
def headR (i : Nat) : Fr × St := (⟨31, mkT [(0, vc (.ot 0 yO yN)), (3, vc (iC i))]⟩, ⟨.nil, 50⟩)
def outOkR : Exit × Fr × St := (.exit 0, ⟨31, .nil⟩, ⟨.nil, 50⟩)
def outBadR : Exit × Fr × St := (.ret, ⟨31, mkT [(2, vc (iC 14))]⟩, ⟨.nil, 50⟩)
def annR (o : Exit × Fr × St) : Ann := fun g r => bif Nat.beq g 74 && Nat.beq r 4 then some { n := 25, head := headR, facts := factP, outs := some [o] } else none
noncomputable def tR : FuncId → Option PT := addP 97 pHas cx.prim
noncomputable def cxR (g : Nat → List Int → Int) : Cx := cxW tR g defR noRows
def argsR : List V := [vc (.ot 0 yO yN)]
noncomputable def runR (g : Nat → List Int → Int) (o : Exit × Fr × St) (l0 : Asg) (K : V → St → Bool) : Bool :=
  paths 30 l0 (askCallF (cxR g) (annR o) noTails 200 0 74 argsR ⟨.nil, 0⟩) fun l => callG (withT (cxR g) l) (runL (cxR g) (annR o) 200 noTails l) 0 74 argsR ⟨.nil, 0⟩ K
end Go.Proofs.Tryz

namespace Go.Proofs.Tryz
open Go Go.Am
set_option maxRecDepth 100000

/-- Whether the pitches up to i are right: as the program reckons, as the reference does. -/
def wl (n : Int) : Int := IntKind.i64.wrap (n - 1)
def gP (y : Int → Int) (o n : Int) : Nat → Int
  | 0 => 1
  | i + 1 => if gP y o n i = 1 then (if y (o + i) ≤ 127 then (if pin (y (o + i)) = 0 then 0 else if y (o + i) = 88 then (if (i : Int) = wl n then 1 else 0) else if y (o + i) = 72 then (if (i : Int) = wl n then 1 else 0) else 1) else 0) else 0
def h6 (b : Int) : Int := hasI [b, 66, 67, 83, 70, 88, 72]
def h2 (b : Int) : Int := hasI [b, 88, 72]
def gR (y : Int → Int) (o n : Int) : Nat → Int
  | 0 => 1
  | i + 1 => if gR y o n i = 1 then (if h6 (y (o + i)) = 0 then 0 else if h2 (y (o + i)) = 0 then 1 else if wl n ≤ (i : Int) then 1 else 0) else 0
def errP (g : Nat → Int) (n : Int) : Nat → Int
  | 0 => 0
  | m + 1 => if n ≤ ((24 - (m + 1) : Nat) : Int) then 0 else if g (24 - m) = 1 then errP g n m else 1
/-- What the pitches' check answers. -/
def pitV (y : Int → Int) (o n : Int) : Int := if n ≤ 24 then (if errP (gP y o n) n 24 = 0 then 0 else 14) else 5

theorem h6_pin (b : Int) : h6 b = pin b := by
  unfold h6 pin hasI
  simp only [List.mem_cons, List.not_mem_nil, or_false]
theorem h2_eq (b : Int) : h2 b = if b = 88 ∨ b = 72 then 1 else 0 := by
  unfold h2 hasI
  simp only [List.mem_cons, List.not_mem_nil, or_false]
theorem pin_zero {b : Int} (h : 127 < b) : pin b = 0 := by unfold pin; rw [if_neg (by omega)]

theorem g_same {y : Int → Int} {o n : Int} (hn : 0 ≤ n) (h24 : n ≤ 24) : ∀ i : Nat, (i : Int) ≤ n → gR y o n i = gP y o n i
  | 0, _ => rfl
  | i + 1, h => by
    have ih := g_same (y := y) (o := o) hn h24 i (by omega)
    have hw : wl n = n - 1 := Go.Gc.wrap_id (by omega) (by omega)
    simp only [gR, gP, ih, h6_pin, h2_eq, hw]
    by_cases h1 : gP y o n i = 1
    case neg => simp only [if_neg h1]
    simp only [if_pos h1]
    by_cases h2 : y (o + i) ≤ 127
    case neg =>
      rw [if_neg h2, if_pos (pin_zero (by omega))]
    rw [if_pos h2]
    by_cases h3 : pin (y (o + i)) = 0
    · rw [if_pos h3, if_pos h3]
    rw [if_neg h3, if_neg h3]
    by_cases h4 : y (o + i) = 88
    · rw [if_pos h4, if_neg (by rw [if_pos (.inl h4)]; omega)]
      by_cases h5 : (i : Int) = n - 1
      · rw [if_pos h5, if_pos (by omega)]
      · rw [if_neg h5, if_neg (by omega)]
    rw [if_neg h4]
    by_cases h6 : y (o + i) = 72
    · rw [if_pos h6, if_neg (by rw [if_pos (.inr h6)]; omega)]
      by_cases h5 : (i : Int) = n - 1
      · rw [if_pos h5, if_pos (by omega)]
      · rw [if_neg h5, if_neg (by omega)]
    rw [if_neg h6, if_pos (by rw [if_neg (by rintro (h | h) <;> contradiction)])]

theorem err_same {f g : Nat → Int} {n : Int} (h : ∀ i : Nat, (i : Int) ≤ n → f i = g i) : ∀ m, m ≤ 24 → errP f n m = errP g n m
  | 0, _ => rfl
  | m + 1, hm => by
    simp only [errP]
    by_cases h1 : n ≤ ((24 - (m + 1) : Nat) : Int)
    · rw [if_pos h1, if_pos h1]
    · rw [if_neg h1, if_neg h1, err_same h m (by omega), h (24 - m) (by omega)]

theorem pitV_R {y : Int → Int} {o n : Int} (hn : 0 ≤ n) : pitV y o n = if n ≤ 24 then (if errP (gR y o n) n 24 = 0 then 0 else 14) else 5 := by
  unfold pitV
  by_cases h : n ≤ 24
  · rw [if_pos h, if_pos h, err_same (fun i hi => (g_same hn h i hi).symm) 24 (by omega)]
  · rw [if_neg h, if_neg h]

/-- A move's data: from, to, whether it is an out, the string, the touches. -/
structure MvD where
  fr : Int
  to : Int
  x : Int
  y : Int → Int
  so : Int
  sn : Int
  t : Int → Int
  bo : Int
  bn : Int
def MvD.check (m : MvD) : Int := mvV m.fr m.to m.x m.y m.so m.sn m.t m.bo m.bn

/-- What the moves' check answers. -/
def mvsV (d : Nat → MvD) : Nat → Nat → Int
  | 0, _ => 0
  | n + 1, i => if (d i).check = 0 then (if 0 < i ∧ (d (i - 1)).fr ≤ (d i).fr then 11 else mvsV d n (i + 1)) else (d i).check
/-- Is it an event? -/
def evOk (y : Int → Int) (o n : Int) : Bool := decide (n = 0 ∨ n = 1 ∧ hasI [y (o + 0), 75, 87, 72, 73, 88, 78, 89] = 1)
/-- What the play's check answers. -/
def plV (y0 : Int → Int) (yo yn : Int) (y1 : Int → Int) (eo en : Int) (d : Nat → MvD) (n : Nat) : Int :=
  if pitV y0 yo yn = 0 then (if evOk y1 eo en = true then (if n ≤ 4 then mvsV d n 0 else 5) else 13) else pitV y0 yo yn

/-- Moves in memory. -/
def IsMv (w : World) (vs : List (Option Value)) (m : MvD) : Prop := ∃ sv bv, vs = [some (vi m.fr), some (vi m.to), some (.bool (decide (m.x ≠ 0))), some sv, some bv] ∧ IsStr sv m.y m.so m.sn ∧ IsInts w bv m.t m.bo m.bn
def cellsAt (w : World) (b off : Nat) : Nat → List (Option Value)
  | 0 => []
  | n + 1 => w.cell? ⟨b, off, none⟩ :: cellsAt w b (off + 1) n
def IsMoves (w : World) (v : Value) (d : Nat → MvD) (n : Nat) : Prop := ∃ (a : Option Addr) (c : Nat), v = .slice a n c ∧ n ≤ c ∧ (n ≠ 0 → ∃ b off, a = some ⟨b, off, none⟩ ∧ ∀ i, i < n → IsMv w (cellsAt w b (off + 5 * i) 5) (d i))
end Go.Proofs.Tryz

namespace Go.Proofs.Tryz
open Go Go.Am
set_option maxRecDepth 100000

/-- Strings' bytes and slices' elements. -/
def bs (y t : Nat → Int → Int) (f : Nat) (j : Int) : Int := if 2000 ≤ f then t (f - 2000) j else y (f - 1000) j
def mvdOf (y t : Nat → Int → Int) : List Int → MvD
  | [a, b, x, k, so, sn, kb, bo, bn] => ⟨a, b, x, bs y t (1000 + k.toNat), so, sn, bs y t (2000 + kb.toNat), bo, bn⟩
  | _ => ⟨0, 0, 0, fun _ => 0, 0, 0, fun _ => 0, 0, 0⟩
def mvdsOf (y t : Nat → Int → Int) (l : List Int) (i : Nat) : MvD := mvdOf y t ((l.drop (9 * i)).take 9)
def plG (y t : Nat → Int → Int) : List Int → Int
  | k0 :: yo :: yn :: k1 :: eo :: en :: n :: l => plV (bs y t (1000 + k0.toNat)) yo yn (bs y t (1000 + k1.toNat)) eo en (mvdsOf y t l) n.toNat
  | _ => 0
def smallF (y t : Nat → Int → Int) : Nat → List Int → Int
  | 61, [x] => pin x
  | 60, [k, o, n] => pitV (bs y t (1000 + k.toNat)) o n
  | 40, l => (mvdOf y t l).check
  | 50, l => plG y t l
  | 62, l => idxI l
  | 66, l => hasI l
  | 20, [a, b, k, o, n] => Go.Pc.cB (bs y t (1000 + k.toNat)) a b o n
  | 21, [a, b, k, o, n] => Go.Pc.cS (bs y t (1000 + k.toNat)) a b o n
  | 22, [a, b, k, o, n] => Go.Pc.cI (bs y t (1000 + k.toNat)) a b o n
  | 23, [a, b, k, o, n] => Go.Pc.cE (bs y t (1000 + k.toNat)) a b o n
  | _, _ => 0
/-- The functions that symbols stand for. -/
def fG (y t : Nat → Int → Int) (f : Nat) (l : List Int) : Int := if 1000 ≤ f then bs y t f (l.headD 0) else smallF y t f l

section
variable {y t : Nat → Int → Int}
theorem fG_y (k : Nat) (j : Int) : fG y t (1000 + k) [j] = bs y t (1000 + k) j := by unfold fG; rw [if_pos (by omega)]; rfl
theorem fG_t (k : Nat) (j : Int) : fG y t (2000 + k) [j] = bs y t (2000 + k) j := by unfold fG; rw [if_pos (by omega)]; rfl
theorem fG_s {f : Nat} (hf : f < 1000) (l : List Int) : fG y t f l = smallF y t f l := by unfold fG; rw [if_neg (by omega)]
theorem bs_t (k : Nat) (j : Int) : bs y t (2000 + k) j = t k j := by unfold bs; rw [if_pos (by omega)]; congr 1; omega
theorem bs_y {k : Nat} (hk : k < 1000) (j : Int) : bs y t (1000 + k) j = y k j := by unfold bs; rw [if_neg (by omega)]; congr 1; omega
theorem mv40 : Mv40 (fG y t) := by
  intro a b x k so sn kb bo bn
  rw [fG_s (by omega)]
  show mvV a b x (bs y t (1000 + (k : Int).toNat)) so sn (bs y t (2000 + (kb : Int).toNat)) bo bn = _
  have e1 : (fun j => fG y t (1000 + k) [j]) = bs y t (1000 + (k : Int).toNat) := by funext j; rw [fG_y]; rfl
  have e2 : (fun j => fG y t (2000 + kb) [j]) = bs y t (2000 + (kb : Int).toNat) := by funext j; rw [fG_t]; rfl
  rw [e1, e2]
end

/-! ### the symbols of a play -/
def compM (m : MvD) (j : Nat) : Int := [m.fr, m.to, m.x, m.so, m.sn, m.bo, m.bn].getD j 0
def bvP (l : List Int) (d : Nat → MvD) (m : Nat) : Int := if m < 10 then l.getD m 0 else compM (d ((m - 10) / 10)) ((m - 10) % 10)
/-- Strings and slices of a play. -/
def yP (y0 y1 : Int → Int) (d : Nat → MvD) (k : Nat) : Int → Int := if k = 0 then y0 else if k = 1 then y1 else (d (k - 2)).y
def tP' (d : Nat → MvD) (k : Nat) : Int → Int := (d k).t

theorem bvP_pv (l : List Int) (d : Nat → MvD) {i j : Nat} (hj : j < 10) : bvP l d (10 + 10 * i + j) = compM (d i) j := by
  unfold bvP
  rw [if_neg (by omega), show (10 + 10 * i + j - 10) / 10 = i by omega, show (10 + 10 * i + j - 10) % 10 = j by omega]

/-- A term of the first symbols alone. -/
def E.low : E → Bool
  | .var n => Nat.blt n 100
  | .lit _ => true
  | .add a b => E.low a && E.low b
  | .sub a b => E.low a && E.low b
  | .mul a b => E.low a && E.low b
  | .quo a b => E.low a && E.low b
  | .rem a b => E.low a && E.low b
  | .max a b => E.low a && E.low b
  | .min a b => E.low a && E.low b
  | .wrap _ a => E.low a
  | .app _ a => E.low a
  | .pair a b => E.low a && E.low b
  | .nil => true
  | .enc a _ => E.low a
def lowD : DT → Bool
  | .leaf e => E.low e
  | .node (.le a b) x y => E.low a && E.low b && lowD x && lowD y
  | .node (.eq a b) x y => E.low a && E.low b && lowD x && lowD y

section
variable {ρ ρ' : Env}
theorem vals_low (hv : ∀ n, n < 100 → ρ.v n = ρ'.v n) (hf : ρ.f = ρ'.f) : ∀ e : E, E.low e = true → e.vals ρ = e.vals ρ'
  | .var n, h => by
    have : n < 100 := by simpa [E.low, Nat.blt, Nat.ble_eq, Nat.succ_le_iff] using h
    simp only [E.vals, hv n this]
  | .lit i, _ => rfl
  | .add a b, h => by simp only [E.low, Bool.and_eq_true] at h; simp only [E.vals, vals_low hv hf a h.1, vals_low hv hf b h.2]
  | .sub a b, h => by simp only [E.low, Bool.and_eq_true] at h; simp only [E.vals, vals_low hv hf a h.1, vals_low hv hf b h.2]
  | .mul a b, h => by simp only [E.low, Bool.and_eq_true] at h; simp only [E.vals, vals_low hv hf a h.1, vals_low hv hf b h.2]
  | .quo a b, h => by simp only [E.low, Bool.and_eq_true] at h; simp only [E.vals, vals_low hv hf a h.1, vals_low hv hf b h.2]
  | .rem a b, h => by simp only [E.low, Bool.and_eq_true] at h; simp only [E.vals, vals_low hv hf a h.1, vals_low hv hf b h.2]
  | .max a b, h => by simp only [E.low, Bool.and_eq_true] at h; simp only [E.vals, vals_low hv hf a h.1, vals_low hv hf b h.2]
  | .min a b, h => by simp only [E.low, Bool.and_eq_true] at h; simp only [E.vals, vals_low hv hf a h.1, vals_low hv hf b h.2]
  | .wrap k a, h => by simp only [E.low] at h; simp only [E.vals, vals_low hv hf a h]
  | .app f a, h => by simp only [E.low] at h; simp only [E.vals, vals_low hv hf a h, hf]
  | .pair a b, h => by simp only [E.low, Bool.and_eq_true] at h; simp only [E.vals, vals_low hv hf a h.1, vals_low hv hf b h.2]
  | .nil, _ => rfl
  | .enc a j, h => by simp only [E.low] at h; simp only [E.vals, vals_low hv hf a h]
theorem val_low (hv : ∀ n, n < 100 → ρ.v n = ρ'.v n) (hf : ρ.f = ρ'.f) {e : E} (h : E.low e = true) : e.val ρ = e.val ρ' := by unfold E.val; rw [vals_low hv hf e h]
theorem eval_low (hv : ∀ n, n < 100 → ρ.v n = ρ'.v n) (hf : ρ.f = ρ'.f) : ∀ d : DT, lowD d = true → d.eval ρ = d.eval ρ'
  | .leaf e, h => val_low hv hf h
  | .node (.le a b) x y, h => by
    simp only [lowD, Bool.and_eq_true] at h
    rw [ev_le, ev_le, val_low hv hf h.1.1.1, val_low hv hf h.1.1.2, eval_low hv hf x h.1.2, eval_low hv hf y h.2]
  | .node (.eq a b) x y, h => by
    simp only [lowD, Bool.and_eq_true] at h
    rw [ev_eq, ev_eq, val_low hv hf h.1.1.1, val_low hv hf h.1.1.2, eval_low hv hf x h.1.2, eval_low hv hf y h.2]
end

/-! ### the moves in memory -/
theorem rowC_get : ∀ (n i0 k : Nat) (c : C), (rowC n i0)[k]? = some c → ∃ i j, k = 5 * i + j ∧ j < 5 ∧ i < n ∧ (mvC (i0 + i))[j]? = some c
  | 0, _, k, c, h => by simp [rowC] at h
  | n + 1, i0, k, c, h => by
    simp only [rowC] at h
    have hl : (mvC i0).length = 5 := rfl
    by_cases hk : k < 5
    · rw [List.getElem?_append_left (by omega)] at h
      exact ⟨0, k, by omega, hk, by omega, by simpa using h⟩
    · rw [List.getElem?_append_right (by omega), hl] at h
      obtain ⟨i, j, h1, h2, h3, h4⟩ := rowC_get n (i0 + 1) (k - 5) c h
      exact ⟨i + 1, j, by omega, h2, by omega, by rw [show i0 + (i + 1) = i0 + 1 + i by omega]; exact h4⟩

theorem cellsAt_get {w : World} : ∀ (n b off j : Nat), j < n → (cellsAt w b off n)[j]? = some (w.cell? ⟨b, off + j, none⟩)
  | 0, _, _, j, h => by omega
  | n + 1, b, off, 0, _ => rfl
  | n + 1, b, off, j + 1, h => by
    simp only [cellsAt, List.getElem?_cons_succ]
    rw [cellsAt_get n b (off + 1) j (by omega), show off + 1 + j = off + (j + 1) by omega]
end Go.Proofs.Tryz
