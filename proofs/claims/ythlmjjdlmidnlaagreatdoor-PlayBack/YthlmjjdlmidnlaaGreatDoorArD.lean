/- On the seat of the open Play statements: the reference's check of pitches: symbols, heads, runs. -/
import Derived.Test.YthlmjjdlmidnlaaGreatDoorArC
namespace Go.Proofs.Tryz
open Go Go.Am
set_option maxRecDepth 100000

/-! ### a byte in a string -/
def hasI : List Int → Int
  | b :: s => if b ∈ s then 1 else 0
  | [] => 0
def hasD : List UInt8 → DT
  | [] => dLf 0
  | c :: l => .node (.eq (L (Int.ofNat c.toNat)) rX) (dLf 1) (hasD l)
def hasS : List (List UInt8) := [[66, 67, 83, 70, 88, 72], [88, 72], [75, 87, 72, 73, 88, 78, 89]]
def strS (l : List UInt8) : ByteArray := ⟨l.toArray⟩
def argsHas (l : List UInt8) : List V := [.a (.c (.sc (.string (strS l)))), .a (.c (.sy .u8 rX))]
noncomputable def cxB : Cx := cxW cx.prim (fun _ _ => 0) noDefs noRows
noncomputable def runHas (l : List UInt8) : Bool := runOne 100 20 cxB 97 [] (argsHas l) (fun a => isBT cxB a (hasD l))
theorem runHas1 : runHas [66, 67, 83, 70, 88, 72] = true := by kernel_rfl
theorem runHas2 : runHas [88, 72] = true := by kernel_rfl
theorem runHas3 : runHas [75, 87, 72, 73, 88, 78, 89] = true := by kernel_rfl

theorem hasD_ev (x : Int) (g : Nat → List Int → Int) : ∀ l : List UInt8, (hasD l).eval (envV [x] g) = hasI (x :: l.map fun b => (b.toNat : Int))
  | [] => rfl
  | c :: l => by
    have ih := hasD_ev x g l
    simp only [hasD]
    rw [ev_eq, ih]
    show (if ((c.toNat : Nat) : Int) = x then (1 : Int) else _) = _
    simp only [hasI, List.map_cons, List.mem_cons]
    by_cases h : ((c.toNat : Nat) : Int) = x
    · rw [if_pos h, if_pos (.inl h.symm)]
    · rw [if_neg h]
      by_cases h2 : x ∈ l.map fun b => (b.toNat : Int)
      · rw [if_pos h2, if_pos (.inr h2)]
      · rw [if_neg h2, if_neg (fun q => q.elim (fun e => h e.symm) h2)]

theorem has_ret {x : Int} {w : World} (h : Laid w) (l : List UInt8) (hl : l ∈ hasS) : CallRet prog 97 #[.string (strS l), .int .u8 x] w fun v' w' => v' = .bool (decide (hasI (x :: l.map fun b => (b.toNat : Int)) ≠ 0)) ∧ Kept w w' := by
  have hk : runHas l = true := by
    simp only [hasS, List.mem_cons, List.not_mem_nil, or_false] at hl
    rcases hl with rfl | rfl | rfl
    · exact runHas1
    · exact runHas2
    · exact runHas3
  have := run_B (vs := [x]) (fun _ => tokBase _ _ _ _) hk h asN (args' := #[.string (strS l), .int .u8 x]) ⟨rfl, rfl, trivial⟩
  rw [hasD_ev] at this
  refine this.mono fun v' w' ⟨e, hk⟩ => ⟨?_, hk⟩
  rw [e]; congr 1
  simp only [hasI]
  split <;> rfl

def memS (s : ByteArray) : Bool := hasS.any fun l => decide (s.data.toList = l)
def pHas (_ : Nat) (args : List V) (st : St) : Option (V × St) :=
  match args with
  | [.a (.c (.sc (.string s))), .a (.c (.sy .u8 e))] => bif memS s then some (.a (.c (.sb (appE 66 (e :: bytesE s.data.toList)))), st) else none
  | _ => none

theorem bytesE_int (ρ : Env) : ∀ s : List UInt8, (bytesE s).map (E.val ρ) = s.map fun b => (b.toNat : Int)
  | [] => rfl
  | b :: s => by
    show (Int.ofNat b.toNat) :: ((bytesE s).map (E.val ρ)) = _
    rw [bytesE_int ρ s]; rfl

section
variable {q : FuncId → Option PT} {g : Nat → List Int → Int} {d : Nat → Option DT} {o : Nat → Option (List C)} {B : Nat}
theorem pokHas (hg : ∀ l, g 66 l = hasI l) : POk (cxW q g d o) B 97 pHas := by
  intro fl β st w args args' v st' hi hfl ha hpv
  have hL : Laid w := laid_base (cx' := cxW q g d o) rfl hi
  have hfn : β.env.f = g := hi.facts.fns
  unfold pHas at hpv
  obtain ⟨al⟩ := args'
  split at hpv
  case h_2 => cases hpv
  rename_i s e0
  cases hc : memS s with
  | false => rw [hc] at hpv; cases hpv
  | true =>
  rw [hc] at hpv
  simp only [cond_true, Option.some.injEq, Prod.mk.injEq] at hpv
  obtain ⟨rfl, rfl⟩ := hpv
  obtain ⟨l, hl, hs⟩ := List.any_eq_true.1 hc
  have es : s = strS l := by
    obtain ⟨⟨l'⟩⟩ := s
    have := of_decide_eq_true hs
    simp only at this
    subst this; rfl
  match al, ha with
  | [x', y'], hr =>
    have e : x' = _ := hr.1
    have e2 : y' = .int .u8 (e0.val β.env) := hr.2.1
    subst e e2 es
    refine prim_kept hi (v' := .bool (decide (hasI (e0.val β.env :: l.map fun b => (b.toNat : Int)) ≠ 0))) ?_ (has_ret hL l hl)
    show _ = Value.bool (decide ((appE 66 (e0 :: bytesE (strS l).data.toList)).val β.env ≠ 0))
    rw [appE_val, hfn, hg, List.map_cons, bytesE_int]
    have : (strS l).data.toList = l := rfl
    rw [this]
end

/-! ### the pitches, by the reference -/
def has6 (i : Nat) : E := appE 66 (bP i :: bytesE [66, 67, 83, 70, 88, 72])
def has2 (i : Nat) : E := appE 66 (bP i :: bytesE [88, 72])
def dGoR : Nat → DT
  | 0 => dLf 1
  | i + 1 => .node (.eq (sGo i) (L 1)) (.node (.eq (has6 i) (L 0)) (dLf 0) (.node (.eq (has2 i) (L 0)) (dLf 1) (.node (.le lastE (L i)) (dLf 1) (dLf 0)))) (dLf 0)
def defR (m : Nat) : Option DT := bif Nat.blt m 100 then none else bif Nat.blt m 125 then some (dGoR (m - 100)) else bif Nat.beq m 920 then some (dErr 24) else none
def headR (i : Nat) : Fr × St := (⟨31, mkT [(0, vc (.ot 0 yO yN)), (3, vc (iC i))]⟩, ⟨.nil, 50⟩)
def outOkR : Exit × Fr × St := (.exit 0, ⟨31, .nil⟩, ⟨.nil, 50⟩)
def outBadR : Exit × Fr × St := (.ret, ⟨31, mkT [(2, vc (iC 14))]⟩, ⟨.nil, 50⟩)
def annR (o : Exit × Fr × St) : Ann := fun g r => bif Nat.beq g 74 && Nat.beq r 4 then some { n := 25, head := headR, facts := factP, outs := some [o] } else none
noncomputable def tR : FuncId → Option PT := addP 97 pHas cx.prim
noncomputable def cxR (g : Nat → List Int → Int) : Cx := cxW tR g defR noRows
def argsR : List V := [vc (.ot 0 yO yN)]
noncomputable def runR (g : Nat → List Int → Int) (o : Exit × Fr × St) (l0 : Asg) (K : V → St → Bool) : Bool :=
  paths 30 l0 (askCallF (cxR g) (annR o) noTails 200 0 74 argsR ⟨.nil, 0⟩) fun l => callG (withT (cxR g) l) (runL (cxR g) (annR o) 200 noTails l) 0 74 argsR ⟨.nil, 0⟩ K
end Go.Proofs.Tryz
