/- Plain: what the check of a play answers. On the seat of the open Play statements: the functions and the symbols of a play. -/
import Derived.Test.YthlmjjdlmidnlaaGreatDoorArMc
import Derived.Test.YthlmjjdlmidnlaaGreatDoorArD
import Derived.Test.YthlmjjdlmidnlaaGreatDoorAmGcu
namespace Go.Proofs.Tryz
open Go Go.Am
set_option maxRecDepth 100000

/-- Whether the pitches up to i are right: as the program reckons, as the reference does. -/
def wl (n : Int) : Int := IntKind.i64.wrap (n - 1)
def gP (y : Int → Int) (o n : Int) : Nat → Int
  | 0 => 1
  | i + 1 => if gP y o n i = 1 then (if y (o + i) ≤ 127 then (if pin (y (o + i)) = 0 then 0 else if y (o + i) = 88 then (if (i : Int) = wl n then 1 else 0) else if y (o + i) = 72 then (if (i : Int) = wl n then 1 else 0) else 1) else 0) else 0
def h6 (b : Int) : Int := hasI [b, 66, 67, 83, 70, 88, 72]
def h2 (b : Int) : Int := hasI [b, 88, 72]
def gR (y : Int → Int) (o n : Int) : Nat → Int
  | 0 => 1
  | i + 1 => if gR y o n i = 1 then (if h6 (y (o + i)) = 0 then 0 else if h2 (y (o + i)) = 0 then 1 else if wl n ≤ (i : Int) then 1 else 0) else 0
def errP (g : Nat → Int) (n : Int) : Nat → Int
  | 0 => 0
  | m + 1 => if n ≤ ((24 - (m + 1) : Nat) : Int) then 0 else if g (24 - m) = 1 then errP g n m else 1
/-- What the pitches' check answers. -/
def pitV (y : Int → Int) (o n : Int) : Int := if n ≤ 24 then (if errP (gP y o n) n 24 = 0 then 0 else 14) else 5

theorem h6_pin (b : Int) : h6 b = pin b := by
  unfold h6 pin hasI
  simp only [List.mem_cons, List.not_mem_nil, or_false]
theorem h2_eq (b : Int) : h2 b = if b = 88 ∨ b = 72 then 1 else 0 := by
  unfold h2 hasI
  simp only [List.mem_cons, List.not_mem_nil, or_false]
theorem pin_zero {b : Int} (h : 127 < b) : pin b = 0 := by unfold pin; rw [if_neg (by omega)]

theorem g_same {y : Int → Int} {o n : Int} (hn : 0 ≤ n) (h24 : n ≤ 24) : ∀ i : Nat, (i : Int) ≤ n → gR y o n i = gP y o n i
  | 0, _ => rfl
  | i + 1, h => by
    have ih := g_same (y := y) (o := o) hn h24 i (by omega)
    have hw : wl n = n - 1 := Go.Gc.wrap_id (by omega) (by omega)
    simp only [gR, gP, ih, h6_pin, h2_eq, hw]
    by_cases h1 : gP y o n i = 1
    case neg => simp only [if_neg h1]
    simp only [if_pos h1]
    by_cases h2 : y (o + i) ≤ 127
    case neg =>
      rw [if_neg h2, if_pos (pin_zero (by omega))]
    rw [if_pos h2]
    by_cases h3 : pin (y (o + i)) = 0
    · rw [if_pos h3, if_pos h3]
    rw [if_neg h3, if_neg h3]
    by_cases h4 : y (o + i) = 88
    · rw [if_pos h4, if_neg (by rw [if_pos (.inl h4)]; omega)]
      by_cases h5 : (i : Int) = n - 1
      · rw [if_pos h5, if_pos (by omega)]
      · rw [if_neg h5, if_neg (by omega)]
    rw [if_neg h4]
    by_cases h6 : y (o + i) = 72
    · rw [if_pos h6, if_neg (by rw [if_pos (.inr h6)]; omega)]
      by_cases h5 : (i : Int) = n - 1
      · rw [if_pos h5, if_pos (by omega)]
      · rw [if_neg h5, if_neg (by omega)]
    rw [if_neg h6, if_pos (by rw [if_neg (by rintro (h | h) <;> contradiction)])]

theorem err_same {f g : Nat → Int} {n : Int} (h : ∀ i : Nat, (i : Int) ≤ n → f i = g i) : ∀ m, m ≤ 24 → errP f n m = errP g n m
  | 0, _ => rfl
  | m + 1, hm => by
    simp only [errP]
    by_cases h1 : n ≤ ((24 - (m + 1) : Nat) : Int)
    · rw [if_pos h1, if_pos h1]
    · rw [if_neg h1, if_neg h1, err_same h m (by omega), h (24 - m) (by omega)]

theorem pitV_R {y : Int → Int} {o n : Int} (hn : 0 ≤ n) : pitV y o n = if n ≤ 24 then (if errP (gR y o n) n 24 = 0 then 0 else 14) else 5 := by
  unfold pitV
  by_cases h : n ≤ 24
  · rw [if_pos h, if_pos h, err_same (fun i hi => (g_same hn h i hi).symm) 24 (by omega)]
  · rw [if_neg h, if_neg h]

/-- A move's data: from, to, whether it is an out, the string, the touches. -/
structure MvD where
  fr : Int
  to : Int
  x : Int
  y : Int → Int
  so : Int
  sn : Int
  t : Int → Int
  bo : Int
  bn : Int
def MvD.check (m : MvD) : Int := mvV m.fr m.to m.x m.y m.so m.sn m.t m.bo m.bn

/-- What the moves' check answers. -/
def mvsV (d : Nat → MvD) : Nat → Nat → Int
  | 0, _ => 0
  | n + 1, i => if (d i).check = 0 then (if 0 < i ∧ (d (i - 1)).fr ≤ (d i).fr then 11 else mvsV d n (i + 1)) else (d i).check
/-- Is it an event? -/
def evOk (y : Int → Int) (o n : Int) : Bool := decide (n = 0 ∨ n = 1 ∧ hasI [y (o + 0), 75, 87, 72, 73, 88, 78, 89] = 1)
/-- What the play's check answers. -/
def plV (y0 : Int → Int) (yo yn : Int) (y1 : Int → Int) (eo en : Int) (d : Nat → MvD) (n : Nat) : Int :=
  if pitV y0 yo yn = 0 then (if evOk y1 eo en = true then (if n ≤ 4 then mvsV d n 0 else 5) else 13) else pitV y0 yo yn

/-- Moves in memory. -/
def IsMv (w : World) (vs : List (Option Value)) (m : MvD) : Prop := ∃ sv bv, vs = [some (vi m.fr), some (vi m.to), some (.bool (decide (m.x ≠ 0))), some sv, some bv] ∧ IsStr sv m.y m.so m.sn ∧ IsInts w bv m.t m.bo m.bn
def cellsAt (w : World) (b off : Nat) : Nat → List (Option Value)
  | 0 => []
  | n + 1 => w.cell? ⟨b, off, none⟩ :: cellsAt w b (off + 1) n
def IsMoves (w : World) (v : Value) (d : Nat → MvD) (n : Nat) : Prop := ∃ (a : Option Addr) (c : Nat), v = .slice a n c ∧ n ≤ c ∧ (n ≠ 0 → ∃ b off, a = some ⟨b, off, none⟩ ∧ ∀ i, i < n → IsMv w (cellsAt w b (off + 5 * i) 5) (d i))
end Go.Proofs.Tryz

namespace Go.Proofs.Tryz
open Go Go.Am
set_option maxRecDepth 100000

/-- Strings' bytes and slices' elements. -/
def bs (y t : Nat → Int → Int) (f : Nat) (j : Int) : Int := if 2000 ≤ f then t (f - 2000) j else y (f - 1000) j
def mvdOf (y t : Nat → Int → Int) : List Int → MvD
  | [a, b, x, k, so, sn, kb, bo, bn] => ⟨a, b, x, bs y t (1000 + k.toNat), so, sn, bs y t (2000 + kb.toNat), bo, bn⟩
  | _ => ⟨0, 0, 0, fun _ => 0, 0, 0, fun _ => 0, 0, 0⟩
def mvdsOf (y t : Nat → Int → Int) (l : List Int) (i : Nat) : MvD := mvdOf y t ((l.drop (9 * i)).take 9)
def plG (y t : Nat → Int → Int) : List Int → Int
  | k0 :: yo :: yn :: k1 :: eo :: en :: n :: l => plV (bs y t (1000 + k0.toNat)) yo yn (bs y t (1000 + k1.toNat)) eo en (mvdsOf y t l) n.toNat
  | _ => 0
def smallF (y t : Nat → Int → Int) : Nat → List Int → Int
  | 61, [x] => pin x
  | 60, [k, o, n] => pitV (bs y t (1000 + k.toNat)) o n
  | 40, l => (mvdOf y t l).check
  | 50, l => plG y t l
  | 62, l => idxI l
  | 66, l => hasI l
  | 20, [a, b, k, o, n] => Go.Pc.cB (bs y t (1000 + k.toNat)) a b o n
  | 21, [a, b, k, o, n] => Go.Pc.cS (bs y t (1000 + k.toNat)) a b o n
  | 22, [a, b, k, o, n] => Go.Pc.cI (bs y t (1000 + k.toNat)) a b o n
  | 23, [a, b, k, o, n] => Go.Pc.cE (bs y t (1000 + k.toNat)) a b o n
  | _, _ => 0
/-- The functions that symbols stand for. -/
def fG (y t : Nat → Int → Int) (f : Nat) (l : List Int) : Int := if 1000 ≤ f then bs y t f (l.headD 0) else smallF y t f l

section
variable {y t : Nat → Int → Int}
theorem fG_y (k : Nat) (j : Int) : fG y t (1000 + k) [j] = bs y t (1000 + k) j := by unfold fG; rw [if_pos (by omega)]; rfl
theorem fG_t (k : Nat) (j : Int) : fG y t (2000 + k) [j] = bs y t (2000 + k) j := by unfold fG; rw [if_pos (by omega)]; rfl
theorem fG_s {f : Nat} (hf : f < 1000) (l : List Int) : fG y t f l = smallF y t f l := by unfold fG; rw [if_neg (by omega)]
theorem bs_t (k : Nat) (j : Int) : bs y t (2000 + k) j = t k j := by unfold bs; rw [if_pos (by omega)]; congr 1; omega
theorem bs_y {k : Nat} (hk : k < 1000) (j : Int) : bs y t (1000 + k) j = y k j := by unfold bs; rw [if_neg (by omega)]; congr 1; omega
theorem mv40 : Mv40 (fG y t) := by
  intro a b x k so sn kb bo bn
  rw [fG_s (by omega)]
  show mvV a b x (bs y t (1000 + (k : Int).toNat)) so sn (bs y t (2000 + (kb : Int).toNat)) bo bn = _
  have e1 : (fun j => fG y t (1000 + k) [j]) = bs y t (1000 + (k : Int).toNat) := by funext j; rw [fG_y]; rfl
  have e2 : (fun j => fG y t (2000 + kb) [j]) = bs y t (2000 + (kb : Int).toNat) := by funext j; rw [fG_t]; rfl
  rw [e1, e2]
end

/-! ### the symbols of a play -/
def compM (m : MvD) (j : Nat) : Int := [m.fr, m.to, m.x, m.so, m.sn, m.bo, m.bn].getD j 0
def bvP (l : List Int) (d : Nat → MvD) (m : Nat) : Int := if m < 10 then l.getD m 0 else compM (d ((m - 10) / 10)) ((m - 10) % 10)
/-- Strings and slices of a play. -/
def yP (y0 y1 : Int → Int) (d : Nat → MvD) (k : Nat) : Int → Int := if k = 0 then y0 else if k = 1 then y1 else (d (k - 2)).y
def tP' (d : Nat → MvD) (k : Nat) : Int → Int := (d k).t

theorem bvP_pv (l : List Int) (d : Nat → MvD) {i j : Nat} (hj : j < 10) : bvP l d (10 + 10 * i + j) = compM (d i) j := by
  unfold bvP
  rw [if_neg (by omega), show (10 + 10 * i + j - 10) / 10 = i by omega, show (10 + 10 * i + j - 10) % 10 = j by omega]

/-- A term of the first symbols alone. -/
def E.low : E → Bool
  | .var n => Nat.blt n 100
  | .lit _ => true
  | .add a b => E.low a && E.low b
  | .sub a b => E.low a && E.low b
  | .mul a b => E.low a && E.low b
  | .quo a b => E.low a && E.low b
  | .rem a b => E.low a && E.low b
  | .max a b => E.low a && E.low b
  | .min a b => E.low a && E.low b
  | .wrap _ a => E.low a
  | .app _ a => E.low a
  | .pair a b => E.low a && E.low b
  | .nil => true
  | .enc a _ => E.low a
def lowD : DT → Bool
  | .leaf e => E.low e
  | .node (.le a b) x y => E.low a && E.low b && lowD x && lowD y
  | .node (.eq a b) x y => E.low a && E.low b && lowD x && lowD y

section
variable {ρ ρ' : Env}
theorem vals_low (hv : ∀ n, n < 100 → ρ.v n = ρ'.v n) (hf : ρ.f = ρ'.f) : ∀ e : E, E.low e = true → e.vals ρ = e.vals ρ'
  | .var n, h => by
    have : n < 100 := by simpa [E.low, Nat.blt, Nat.ble_eq, Nat.succ_le_iff] using h
    simp only [E.vals, hv n this]
  | .lit i, _ => rfl
  | .add a b, h => by simp only [E.low, Bool.and_eq_true] at h; simp only [E.vals, vals_low hv hf a h.1, vals_low hv hf b h.2]
  | .sub a b, h => by simp only [E.low, Bool.and_eq_true] at h; simp only [E.vals, vals_low hv hf a h.1, vals_low hv hf b h.2]
  | .mul a b, h => by simp only [E.low, Bool.and_eq_true] at h; simp only [E.vals, vals_low hv hf a h.1, vals_low hv hf b h.2]
  | .quo a b, h => by simp only [E.low, Bool.and_eq_true] at h; simp only [E.vals, vals_low hv hf a h.1, vals_low hv hf b h.2]
  | .rem a b, h => by simp only [E.low, Bool.and_eq_true] at h; simp only [E.vals, vals_low hv hf a h.1, vals_low hv hf b h.2]
  | .max a b, h => by simp only [E.low, Bool.and_eq_true] at h; simp only [E.vals, vals_low hv hf a h.1, vals_low hv hf b h.2]
  | .min a b, h => by simp only [E.low, Bool.and_eq_true] at h; simp only [E.vals, vals_low hv hf a h.1, vals_low hv hf b h.2]
  | .wrap k a, h => by simp only [E.low] at h; simp only [E.vals, vals_low hv hf a h]
  | .app f a, h => by simp only [E.low] at h; simp only [E.vals, vals_low hv hf a h, hf]
  | .pair a b, h => by simp only [E.low, Bool.and_eq_true] at h; simp only [E.vals, vals_low hv hf a h.1, vals_low hv hf b h.2]
  | .nil, _ => rfl
  | .enc a j, h => by simp only [E.low] at h; simp only [E.vals, vals_low hv hf a h]
theorem val_low (hv : ∀ n, n < 100 → ρ.v n = ρ'.v n) (hf : ρ.f = ρ'.f) {e : E} (h : E.low e = true) : e.val ρ = e.val ρ' := by unfold E.val; rw [vals_low hv hf e h]
theorem eval_low (hv : ∀ n, n < 100 → ρ.v n = ρ'.v n) (hf : ρ.f = ρ'.f) : ∀ d : DT, lowD d = true → d.eval ρ = d.eval ρ'
  | .leaf e, h => val_low hv hf h
  | .node (.le a b) x y, h => by
    simp only [lowD, Bool.and_eq_true] at h
    rw [ev_le, ev_le, val_low hv hf h.1.1.1, val_low hv hf h.1.1.2, eval_low hv hf x h.1.2, eval_low hv hf y h.2]
  | .node (.eq a b) x y, h => by
    simp only [lowD, Bool.and_eq_true] at h
    rw [ev_eq, ev_eq, val_low hv hf h.1.1.1, val_low hv hf h.1.1.2, eval_low hv hf x h.1.2, eval_low hv hf y h.2]
end

/-! ### the moves in memory -/
theorem rowC_get : ∀ (n i0 k : Nat) (c : C), (rowC n i0)[k]? = some c → ∃ i j, k = 5 * i + j ∧ j < 5 ∧ i < n ∧ (mvC (i0 + i))[j]? = some c
  | 0, _, k, c, h => by simp [rowC] at h
  | n + 1, i0, k, c, h => by
    simp only [rowC] at h
    have hl : (mvC i0).length = 5 := rfl
    by_cases hk : k < 5
    · rw [List.getElem?_append_left (by omega)] at h
      exact ⟨0, k, by omega, hk, by omega, by simpa using h⟩
    · rw [List.getElem?_append_right (by omega), hl] at h
      obtain ⟨i, j, h1, h2, h3, h4⟩ := rowC_get n (i0 + 1) (k - 5) c h
      exact ⟨i + 1, j, by omega, h2, by omega, by rw [show i0 + (i + 1) = i0 + 1 + i by omega]; exact h4⟩

theorem cellsAt_get {w : World} : ∀ (n b off j : Nat), j < n → (cellsAt w b off n)[j]? = some (w.cell? ⟨b, off + j, none⟩)
  | 0, _, _, j, h => by omega
  | n + 1, b, off, 0, _ => rfl
  | n + 1, b, off, j + 1, h => by
    simp only [cellsAt, List.getElem?_cons_succ]
    rw [cellsAt_get n b (off + 1) j (by omega), show off + 1 + j = off + (j + 1) by omega]
end Go.Proofs.Tryz
