/- The abstract machine: slices cut. The abstract machine: append, copy, clear, len, cap. -/
import Derived.Test.YtbfonnoebbjenaaGreatDoorAmG
import Derived.Lib.Bytes
import Derived.Lib.Strings
namespace Go.Am
open Go

variable {cx : Cx} {P : Program} {B fl : Nat} {β : Be} {st : St} {w : World}

/-- an operand that may be missing -/
def ORelV (β : Be) (x : Option V) (x' : Option Value) : Prop :=
  (∀ v, x = some v → ∃ v', x' = some v' ∧ VRel β v v') ∧ (x = none → x' = none)


theorem run_bounds {lo hi mx : Option V} {lo' hi' mx' : Option Value} (h1 : ORelV β lo lo') (h2 : ORelV β hi hi') (h3 : ORelV β mx mx') (isS : Bool) {len cap cap' l h m : Nat}
    (hm : bound mx cap = some m) (hl : bound lo 0 = some l) (hh : bound hi len = some h) (hlh : l ≤ h) (hhm : h ≤ m) (hmc : m ≤ cap) (hcc : cap ≤ cap') (hno : mx.isSome = true → hi.isSome = true) (w : World) :
    (Instr.sliceBounds isS len cap' lo' hi' mx').run P w = .ok (l, h, if mx'.isSome then m else cap') w := by
  have key : ∀ (k : IntKind) (n y : Nat) (c : BoundsCode), n ≤ y → (Instr.sliceBound (.int k n) y c).run P w = .ok n w := fun k n y c hn => by
    simp [Instr.sliceBound, asIntOf, hn]
  have b1 := bound_rel h1.1 h1.2 hl
  have b2 := bound_rel h2.1 h2.2 hh
  have b3 := bound_rel h3.1 h3.2 hm
  rcases b3 with ⟨rfl, e3⟩ | ⟨k3, rfl⟩
  · have hcm : h ≤ cap' := by omega
    rcases b2 with ⟨rfl, e2⟩ | ⟨k2, rfl⟩ <;> rcases b1 with ⟨rfl, e1⟩ | ⟨k1, rfl⟩
    · simp [Instr.sliceBounds, e2, e1]
    · subst e2; simp [Instr.sliceBounds, key k1 l h _ hlh]
    · simp [Instr.sliceBounds, key k2 h cap' _ hcm, e1]
    · simp [Instr.sliceBounds, key k2 h cap' _ hcm, key k1 l h _ hlh]
  · have hmc' : m ≤ cap' := by omega
    rcases b2 with ⟨rfl, e2⟩ | ⟨k2, rfl⟩
    · exfalso
      cases mx with
      | none => have := h3.2 rfl; cases this
      | some v =>
        cases hi with
        | none => have := hno rfl; cases this
        | some u => obtain ⟨_, hu, _⟩ := h2.1 u rfl; cases hu
    · rcases b1 with ⟨rfl, e1⟩ | ⟨k1, rfl⟩
      · simp [Instr.sliceBounds, key k3 m cap' _ hmc', key k2 h m _ hhm, e1]
      · simp [Instr.sliceBounds, key k3 m cap' _ hmc', key k2 h m _ hhm, key k1 l h _ hlh]

theorem ORelV.isSome {x : Option V} {x' : Option Value} (h : ORelV β x x') : x'.isSome = x.isSome := by
  cases x with
  | none => rw [h.2 rfl]; rfl
  | some v => obtain ⟨v', e, _⟩ := h.1 v rfl; rw [e]; rfl

theorem run_sliceAt (hx : CxOk cx P) {t : TypeId} {x : V} {x' : Value} {lo hi mx : Option V} {lo' hi' mx' : Option Value} (hr : VRel β x x') (h1 : ORelV β lo lo') (h2 : ORelV β hi hi') (h3 : ORelV β mx mx')
    {v : V} (h : sliceOp cx t x lo hi mx = some v) (w : World) :
    ∃ v', (Instr.sliceAt t x' lo' hi' mx').run P w = .ok v' w ∧ VRel β v v' := by
  unfold sliceOp at h
  cases hno : (mx.isSome && hi.isNone) with
  | true => rw [hno] at h; simp at h
  | false =>
  rw [hno] at h
  simp only [cond_false] at h
  have hno' : mx.isSome = true → hi.isSome = true := fun hm => by
    rw [hm] at hno
    cases hi <;> simp_all
  split at h
  · rename_i ty ht
    obtain ⟨i, z, hT⟩ := hx.is ht
    split at h
    · -- a string
      rename_i s hu
      have hx' : x' = .string s := hr
      subst hx'
      split at h
      · rename_i l hh hbl hbh
        cases hbd : (Nat.ble l hh && Nat.ble hh s.size) with
        | false => rw [hbd] at h; simp at h
        | true =>
          rw [hbd] at h
          simp only [cond_true, Option.some.injEq] at h; subst h
          simp only [Bool.and_eq_true] at hbd
          have c1 := Nat.le_of_ble_eq_true hbd.1
          have c2 := Nat.le_of_ble_eq_true hbd.2
          have hmx' : mx' = none := h3.2 rfl
          subst hmx'
          have hb := run_bounds (P := P) h1 h2 h3 false (cap := s.size) (cap' := s.size) (m := s.size) rfl hbl hbh c1 c2 (Nat.le_refl _) (Nat.le_refl _) hno' w
          refine ⟨.string (s.extract l hh), ?_, rfl⟩
          simp only [Option.isSome, Bool.false_eq_true, if_false] at hb
          simp [Instr.sliceAt, Instr.slice, hT.run_under, hu, hb]
      · cases h
    · -- an outer slice
      rename_i e k off len hu
      split at h
      · rename_i ety l hh het hbl hbh
        obtain ⟨i', z', hE⟩ := hx.is het
        cases hbd : (Nat.ble l hh && Nat.ble hh len) with
        | false => rw [hbd] at h; simp at h
        | true =>
          rw [hbd] at h
          simp only [cond_true] at h
          simp only [Bool.and_eq_true] at hbd
          have c1 := Nat.le_of_ble_eq_true hbd.1
          have c2 := Nat.le_of_ble_eq_true hbd.2
          have hmx' : mx' = none := h3.2 rfl
          subst hmx'
          obtain ⟨c, hlc, rfl⟩ := hr
          have hb := run_bounds (P := P) h1 h2 h3 true (cap := len) (cap' := c) (m := len) rfl hbl hbh c1 c2 (Nat.le_refl _) hlc hno' w
          simp only [Option.isSome, Bool.false_eq_true, if_false] at hb
          have base : (Instr.sliceAt t (.slice (some ⟨(β.env.out k).1, (β.env.out k).2 + off, none⟩) len c) lo' hi' none).run P w =
              .ok (.slice (some (if c = l then (⟨(β.env.out k).1, (β.env.out k).2 + off, none⟩ : Addr) else ⟨(β.env.out k).1, (β.env.out k).2 + off + l * ety.size, none⟩)) (hh - l) (c - l)) w := by
            simp only [Instr.sliceAt, Instr.slice, Sem.run_bind, hT.run_under, hu, Result.andThen_ok, hb, hE.run_size, Sem.run_pure, Option.map_some, add_adr]
            by_cases hq : c = l
            · rw [if_pos hq, if_pos hq]
            · rw [if_neg hq, if_neg hq]
          cases hq : Nat.beq l hh with
          | true =>
            rw [hq] at h
            simp only [cond_true, Option.some.injEq] at h; subst h
            have := Nat.eq_of_beq_eq_true hq
            exact ⟨_, base, _, _, _, rfl, by subst this; simp [E.val, E.vals]⟩
          | false =>
            rw [hq] at h
            simp only [cond_false, Option.some.injEq] at h; subst h
            have hne : l ≠ hh := fun e => by subst e; rw [T.beq_true rfl] at hq; cases hq
            exact ⟨_, base, c - l, by omega, by rw [if_neg (by omega), Nat.add_assoc]⟩
      · cases h
    · -- a slice
      rename_i e hu _
      split at h
      · rename_i a len cap fx ety hs het
        obtain ⟨i', z', hE⟩ := hx.is het
        split at h
        · rename_i m l hh hbm hbl hbh
          cases hbd : (Nat.ble l hh && Nat.ble hh m && Nat.ble m cap) with
          | false => rw [hbd] at h; simp at h
          | true =>
            rw [hbd] at h
            simp only [cond_true] at h
            simp only [Bool.and_eq_true] at hbd
            have c1 := Nat.le_of_ble_eq_true hbd.1.1
            have c2 := Nat.le_of_ble_eq_true hbd.1.2
            have c3 := Nat.le_of_ble_eq_true hbd.2
            have hsome := h3.isSome
            rcases sliceOf_rel hr hs with ⟨rfl, rfl, rfl⟩ | ⟨p, b, off, c, rfl, hp, rfl, hcc, hfx, hfx'⟩
            · simp only [mkSlice, Option.some.injEq] at h; subst h
              have hb := run_bounds (P := P) h1 h2 h3 true hbm hbl hbh c1 c2 c3 (Nat.le_refl _) hno' w
              have hm' : (if mx'.isSome = true then m else cap) = m := by
                split
                · rfl
                · rename_i hn
                  rw [hsome] at hn
                  cases mx with
                  | none => simp only [bound, Option.some.injEq] at hbm; exact hbm
                  | some _ => simp at hn
              rw [hm'] at hb
              refine ⟨.slice none (hh - l) (m - l), ?_, rfl⟩
              simp [Instr.sliceAt, Instr.slice, hT.run_under, hu, hb, hE.run_size]
            · simp only at h
              have hb := run_bounds (P := P) h1 h2 h3 true hbm hbl hbh c1 c2 c3 hcc hno' w
              have base : (Instr.sliceAt t (.slice (some ⟨b, off, none⟩) len c) lo' hi' mx').run P w =
                  .ok (.slice (some (if (if mx'.isSome = true then m else c) = l then (⟨b, off, none⟩ : Addr) else ⟨b, off + l * ety.size, none⟩)) (hh - l) ((if mx'.isSome = true then m else c) - l)) w := by
                simp only [Instr.sliceAt, Instr.slice, Sem.run_bind, hT.run_under, hu, Result.andThen_ok, hb, hE.run_size, Sem.run_pure, Option.map_some, add_adr]
                generalize (if mx'.isSome = true then m else c) = M
                by_cases hq : M = l
                · rw [if_pos hq, if_pos hq]
                · rw [if_neg hq, if_neg hq]
              rw [base]
              cases hf : (fx && mx.isNone) with
              | true =>
                simp only [Bool.and_eq_true] at hf
                obtain ⟨hf1, hf2⟩ := hf
                obtain ⟨id, ex, rfl, rfl, hbe, rfl⟩ := hfx' hf1
                have hmn : mx = none := by cases mx <;> simp_all
                subst hmn
                have hmx' : mx' = none := h3.2 rfl
                subst hmx'
                simp only [bound, Option.some.injEq] at hbm
                subst hbm
                rw [hf1] at h
                simp only [Option.isNone, Bool.and_self, Bool.true_and] at h
                cases hz : (Nat.beq cap l && !(Nat.beq l 0)) with
                | true => rw [hz] at h; simp at h
                | false =>
                  rw [hz] at h
                  simp only [cond_false] at h
                  have hm0 : ¬ (none : Option Value).isSome = true := by simp
                  rw [if_neg hm0]
                  have fin : ∀ off', (C.ptr id off' = C.ptr id (if cap + ex = l then off else off + l * ety.size)) → mkSlice (some (C.ptr id off')) (hh - l) (cap - l) true = some v →
                      ∃ v', (Result.ok (Value.slice (some (if cap + ex = l then (⟨b, off, none⟩ : Addr) else ⟨b, off + l * ety.size, none⟩)) (hh - l) (cap + ex - l)) w : Result Value) = .ok v' w ∧ VRel β v v' := fun off' he hv => by
                    simp only [C.ptr.injEq, true_and] at he
                    simp only [mkSlice, Option.some.injEq] at hv; subst hv
                    refine ⟨_, rfl, b, ex, hbe, ?_⟩
                    rw [he]
                    have : cap + ex - l = cap - l + ex := by omega
                    rw [this]
                    split <;> rfl
                  cases hml : Nat.beq cap l with
                  | true =>
                    have e1 := Nat.eq_of_beq_eq_true hml
                    rw [hml] at h hz
                    have e2 : l = 0 := by simpa using hz
                    simp only [cond_true] at h
                    refine fin off ?_ h
                    subst e2; simp
                  | false =>
                    rw [hml] at h
                    have e1 : cap ≠ l := fun e => by rw [e] at hml; simp at hml
                    simp only [cond_false, behind] at h
                    refine fin (off + l * ety.size) ?_ h
                    rw [if_neg (by omega)]
              | false =>
                rw [hf] at h
                simp only [Bool.false_and, cond_false] at h
                have hm' : (if mx'.isSome = true then m else c) = m := by
                  split
                  · rfl
                  · rename_i hn
                    rw [hsome] at hn
                    cases mx with
                    | none =>
                      simp only [Option.isNone, Bool.and_true] at hf
                      simp only [bound, Option.some.injEq] at hbm
                      rw [hfx hf]; exact hbm
                    | some _ => simp at hn
                rw [hm']
                have fin : ∀ p' b' off', CRel β p' (adr b' off') → (⟨b', off', none⟩ : Addr) = (if m = l then (⟨b, off, none⟩ : Addr) else ⟨b, off + l * ety.size, none⟩) → mkSlice (some p') (hh - l) (m - l) false = some v →
                    ∃ v', (Result.ok (Value.slice (some (if m = l then (⟨b, off, none⟩ : Addr) else ⟨b, off + l * ety.size, none⟩)) (hh - l) (m - l)) w : Result Value) = .ok v' w ∧ VRel β v v' := fun p' b' off' hp' he hv => by
                  rw [← he]
                  unfold mkSlice at hv
                  split at hv
                  · cases ‹some p' = none›
                  · rename_i id o heq
                    cases heq
                    simp only [Option.some.injEq] at hv; subst hv
                    obtain ⟨b1, e1, hb1, heq⟩ := hp'
                    simp only [adr, Value.pointer.injEq, Option.some.injEq, Addr.mk.injEq, and_true] at heq
                    obtain ⟨rfl, rfl⟩ := heq
                    exact ⟨_, rfl, b', e1, hb1, rfl⟩
                  · rename_i ad heq
                    cases heq
                    simp only [Option.some.injEq] at hv; subst hv
                    have : adr b' off' = .pointer (some ad) := hp'
                    simp only [adr, Value.pointer.injEq, Option.some.injEq] at this
                    subst this
                    exact ⟨_, rfl, rfl⟩
                  · cases hv
                split at h
                · rename_i p' hp'
                  cases hml : Nat.beq m l with
                  | true =>
                    have e1 := Nat.eq_of_beq_eq_true hml
                    rw [hml] at hp'
                    simp only [cond_true, Option.some.injEq] at hp'; subst hp'
                    exact fin p b off hp (by rw [if_pos e1]) h
                  | false =>
                    have e1 : m ≠ l := fun e => by rw [e] at hml; simp at hml
                    rw [hml] at hp'
                    simp only [cond_false] at hp'
                    obtain ⟨b', off', heq, hr'⟩ := behind_rel hp hp'
                    simp only [adr, Value.pointer.injEq, Option.some.injEq, Addr.mk.injEq, and_true] at heq
                    obtain ⟨rfl, rfl⟩ := heq
                    exact fin p' b _ hr' (by rw [if_neg e1]) h
                · cases h
        · cases h
      · cases h
    · -- an array's place
      rename_i n e p hu
      split at h
      · rename_i ety het
        obtain ⟨i', z', hE⟩ := hx.is het
        split at h
        · rename_i m l hh hbm hbl hbh
          cases hbd : (Nat.ble l hh && Nat.ble hh m && Nat.ble m n) with
          | false => rw [hbd] at h; simp at h
          | true =>
            rw [hbd] at h
            simp only [cond_true] at h
            simp only [Bool.and_eq_true] at hbd
            have c1 := Nat.le_of_ble_eq_true hbd.1.1
            have c2 := Nat.le_of_ble_eq_true hbd.1.2
            have c3 := Nat.le_of_ble_eq_true hbd.2
            have hsome := h3.isSome
            have hb := run_bounds (P := P) h1 h2 h3 false hbm hbl hbh c1 c2 c3 (Nat.le_refl _) hno' w
            have hm' : (if mx'.isSome = true then m else n) = m := by
              split
              · rfl
              · rename_i hn
                rw [hsome] at hn
                cases mx with
                | none => simp only [bound, Option.some.injEq] at hbm; exact hbm
                | some _ => simp at hn
            rw [hm'] at hb
            have fin : ∀ p' b off b' off', x' = adr b off → CRel β p' (adr b' off') → (⟨b', off', none⟩ : Addr) = (if m = l then (⟨b, off, none⟩ : Addr) else ⟨b, off + l * ety.size, none⟩) → mkSlice (some p') (hh - l) (m - l) false = some v →
                ∃ v', (Instr.sliceAt t x' lo' hi' mx').run P w = .ok v' w ∧ VRel β v v' := fun p' b off b' off' hxx hp' he hv => by
              subst hxx
              have base : (Instr.sliceAt t (adr b off) lo' hi' mx').run P w = .ok (.slice (some ⟨b', off', none⟩) (hh - l) (m - l)) w := by
                rw [he]
                simp only [Instr.sliceAt, Sem.run_bind, hT.run_under, hu, Result.andThen_ok, adr, Instr.sureAddr, Sem.run_pure, hb, hE.run_size, add_adr]
              rw [base]
              unfold mkSlice at hv
              split at hv
              · cases ‹some p' = none›
              · rename_i id o heq
                cases heq
                simp only [Option.some.injEq] at hv; subst hv
                obtain ⟨b1, e1, hb1, heq⟩ := hp'
                simp only [adr, Value.pointer.injEq, Option.some.injEq, Addr.mk.injEq, and_true] at heq
                obtain ⟨rfl, rfl⟩ := heq
                exact ⟨_, rfl, b', e1, hb1, rfl⟩
              · rename_i ad heq
                cases heq
                simp only [Option.some.injEq] at hv; subst hv
                have : adr b' off' = .pointer (some ad) := hp'
                simp only [adr, Value.pointer.injEq, Option.some.injEq] at this
                subst this
                exact ⟨_, rfl, rfl⟩
              · cases hv
            have hp : CRel β p x' := hr
            split at h
            · rename_i p' hp'
              cases hml : Nat.beq m l with
              | true =>
                have e1 := Nat.eq_of_beq_eq_true hml
                rw [hml] at hp'
                simp only [cond_true] at hp'
                obtain ⟨b, off, hxx, hr'⟩ := behind_rel hp hp'
                exact fin p' b off b (off + 0) hxx hr' (by rw [if_pos e1]; rfl) h
              | false =>
                have e1 : m ≠ l := fun e => by rw [e] at hml; simp at hml
                rw [hml] at hp'
                simp only [cond_false] at hp'
                obtain ⟨b, off, hxx, hr'⟩ := behind_rel hp hp'
                exact fin p' b off b _ hxx hr' (by rw [if_neg e1]) h
            · cases h
        · cases h
      · cases h
    · cases h
  · cases h
end Go.Am

namespace Go.Am
open Go

variable {cx : Cx} {P : Program} {B fl : Nat} {β : Be} {st : St} {w : World}

theorem cell_heap {w w2 : World} (h : w2.heap = w.heap) (a : Addr) : w2.cell? a = w.cell? a := by simp [World.cell?, h]

theorem srcCells_rel (h : Inv cx B β st w) {size n : Nat} {x : V} {x' : Value} (hr : VRel β x x') {new : List C} (hs : srcCells cx st size x n = some new) :
    ∃ vs : List Value, (∀ w2 : World, w2.heap = w.heap → (Builtin.firstCells size n x').run P w2 = .ok vs.toArray w2) ∧ All2 (CRel β) new vs ∧ ScalL vs ∧ new.length = n * size := by
  unfold srcCells at hs
  split at hs
  · rename_i s
    have hx : x' = .string s := hr
    subst hx
    cases hb : (Nat.ble n s.size && Nat.beq size 1) with
    | false => rw [hb] at hs; simp at hs
    | true =>
      have hb' := hb
      simp only [Bool.and_eq_true] at hb'
      have hle := Nat.le_of_ble_eq_true hb'.1
      have hs1 := Nat.eq_of_beq_eq_true hb'.2
      rw [hb] at hs
      simp only [cond_true, Option.some.injEq] at hs; subst hs
      refine ⟨(s.data.toList.take n).map fun b => .int .u8 (b.toNat : Int), fun w2 _ => ?_, All2.map_sc (R := CRel β) (fun b : UInt8 => C.sc (.int .u8 b.toNat)) (fun b => .int .u8 b.toNat) (fun b => rfl) _, fun v hv => ?_, ?_⟩
      · simp only [Builtin.firstCells, Sem.run_pure]
        congr 1
        apply Array.toList_inj.1
        rw [Array.toList_map, Lib.extract_data]
        simp
      · obtain ⟨b, _, rfl⟩ := List.mem_map.1 hv; rfl
      · have : s.data.size = s.size := rfl
        simp [hs1]; omega
  · cases hb : Nat.beq n 0 with
    | false => rw [hb] at hs; simp at hs
    | true =>
      have h0 := Nat.eq_of_beq_eq_true hb
      rw [hb] at hs
      simp only [cond_true, Option.some.injEq] at hs; subst hs
      obtain ⟨a, m, c, rfl, _⟩ := hr
      refine ⟨[], fun w2 _ => ?_, trivial, (fun _ hx => by cases hx), by simp [h0]⟩
      cases a with
      | none => simp [Builtin.firstCells]
      | some a => simp [Builtin.firstCells, h0, loadCells, loadCellsFrom]
  · rename_i x _ hns
    split at hs
    · rename_i len hso
      cases hb : Nat.beq n 0 with
      | false => rw [hb] at hs; simp at hs
      | true =>
        have h0 := Nat.eq_of_beq_eq_true hb
        rw [hb] at hs
        simp only [cond_true, Option.some.injEq] at hs; subst hs
        rcases sliceRd_rel hr hso with ⟨_, _, rfl⟩ | ⟨p, b, off, c, h1, _⟩
        · exact ⟨[], fun w2 _ => by simp [Builtin.firstCells], trivial, (fun _ hx => by cases hx), by simp [h0]⟩
        · cases h1
    · rename_i p len hso
      rcases sliceRd_rel hr hso with ⟨h1, _⟩ | ⟨p', b, off, c, h1, hp, rfl⟩
      · cases h1
      · cases h1
        cases hb : Nat.beq (n * size) 0 with
        | true =>
          have h0 := Nat.eq_of_beq_eq_true hb
          rw [hb] at hs
          simp only [cond_true, Option.some.injEq] at hs; subst hs
          exact ⟨[], fun w2 _ => by simp [Builtin.firstCells, h0, loadCells, loadCellsFrom], trivial, (fun _ hx => by cases hx), by simp [h0]⟩
        | false =>
          rw [hb] at hs
          simp only [cond_false] at hs
          obtain ⟨b', off', vs, heq, h2, h3, h4, h5⟩ := loadN_rel h hp hs
          simp only [adr, Value.pointer.injEq, Option.some.injEq, Addr.mk.injEq, and_true] at heq
          obtain ⟨rfl, rfl⟩ := heq
          refine ⟨vs, fun w2 hw2 => ?_, h2, h3, by rw [h2.length, h4]⟩
          have := run_loadCells_list (P := P) w2 ⟨b, off, none⟩ vs (fun j x hj => by rw [add_adr, cell_heap hw2]; exact h5 j x hj)
          rw [h4] at this
          simp [Builtin.firstCells, this]
    · cases hs

theorem lenOf_rel {x : V} {x' : Value} (hr : VRel β x x') {n : Nat} (h : lenOf x = some n) (w : World) : (Builtin.lenOf x').run P w = .ok n w := by
  unfold lenOf at h
  split at h
  · rename_i s
    have hx : x' = .string s := hr
    subst hx
    simp only [Option.some.injEq] at h; subst h; rfl
  · obtain ⟨a, m, c, hx, hm⟩ := hr
    subst hx
    simp only [Option.some.injEq] at h; subst h
    have hm0 : m = 0 := by
      have : (m : Int) = 0 := hm
      omega
    subst hm0; rfl
  · simp only [Option.map_eq_some_iff] at h
    obtain ⟨⟨a, len⟩, hs, rfl⟩ := h
    rcases sliceRd_rel hr hs with ⟨_, _, rfl⟩ | ⟨p, b, off, c, _, _, rfl⟩ <;> rfl

theorem mkSlice_rel {p : C} {b off : Nat} (hp : CRel β p (adr b off)) {len cap c : Nat} {fx : Bool} (h1 : fx = false → c = cap) (h2 : fx = true → ∃ id e, p = .ptr id off ∧ β id = some (b, e) ∧ c = cap + e) {v : V} (h : mkSlice (some p) len cap fx = some v) :
    VRel β v (.slice (some ⟨b, off, none⟩) len c) := by
  unfold mkSlice at h
  split at h
  · cases ‹some p = none›
  · rename_i id o heq
    cases heq
    simp only [Option.some.injEq] at h; subst h
    obtain ⟨b1, e1, hb1, heq⟩ := hp
    simp only [adr, Value.pointer.injEq, Option.some.injEq, Addr.mk.injEq, and_true] at heq
    obtain ⟨rfl, rfl⟩ := heq
    refine ⟨b, e1, hb1, ?_⟩
    cases fx with
    | false => rw [h1 rfl]; rfl
    | true =>
      obtain ⟨id', e', he, hb', rfl⟩ := h2 rfl
      cases he
      rw [hb1] at hb'; cases hb'
      rfl
  · rename_i ad heq
    cases heq
    simp only [Option.some.injEq] at h; subst h
    have : adr b off = .pointer (some ad) := hp
    simp only [adr, Value.pointer.injEq, Option.some.injEq] at this
    subst this
    cases fx with
    | false => rw [h1 rfl]; rfl
    | true => obtain ⟨id', e', he, _⟩ := h2 rfl; cases he
  · cases h

/-- A block given up, its place taken by a new id. -/
theorem Good.consume {w' : World} (h : Inv cx B β st w) (hfl : fl ≤ st.next) {id b e e2 : Nat} (hid : fl ≤ id) {o o' : O} {ob : Obj} (hg : st.heap.get id = some o') (hb : β id = some (b, e))
    (ho : ORel cx (upd β st.next (b, e2)) e2 o ob) (hc : Chg w w' b ob) :
    Good cx B fl β st w (upd β st.next (b, e2)) ((st.new o).put id none) w' := by
  have hlt := get_lt h hg
  have hext := ext_upd h (b, e2)
  have hget : ∀ i x, ((st.new o).put id none).heap.get i = some x → (i = st.next ∧ x = o) ∨ (i ≠ st.next ∧ i ≠ id ∧ st.heap.get i = some x) := fun i x hi => by
    simp only [St.put, St.new, T.get_set] at hi
    by_cases e : i = id
    · rw [if_pos e] at hi; cases hi
    · rw [if_neg e] at hi
      by_cases e' : i = st.next
      · rw [if_pos e'] at hi; cases hi; exact .inl ⟨e', rfl⟩
      · rw [if_neg e'] at hi; exact .inr ⟨e', e, hi⟩
  have hB := (h.low id _ hb).2
  have upne : ∀ (i : Nat) (p : Nat × Nat), i ≠ st.next → upd β st.next (b, e2) i = some p → β i = some p := fun i p hi hp => by
    simp only [upd_at, if_neg hi] at hp; exact hp
  refine ⟨hext, fun i hi => ?_, ⟨?_, ?_, ?_, ?_, ?_, h.facts⟩, fun i hi => ?_, Nat.le_succ _, hc.os, hc.tape, hc.output, by rw [hc.size]; exact Nat.le_refl _, ?_, ?_⟩
  · simp only [upd_at]; rw [if_neg (by omega)]
  · intro i p hp
    by_cases hi : i = st.next
    · simp only [upd_at, if_pos hi] at hp; cases hp
      exact ⟨by simp only [St.put, St.new]; omega, hB.1, by rw [hc.size]; exact hB.2⟩
    · have := h.low i p (upne _ _ hi hp)
      exact ⟨by simp only [St.put, St.new]; omega, this.2.1, by rw [hc.size]; exact this.2.2⟩
  · intro i x hi
    rcases hget i x hi with ⟨rfl, rfl⟩ | ⟨hn, hne, hi'⟩
    · exact ⟨b, e2, ob, by simp [upd_at], hc.here, ho⟩
    · obtain ⟨b', e', ob', hb', hh, ho'⟩ := h.live i x hi'
      refine ⟨b', e', ob', hext.ids _ _ hb', ?_, ho'.mono hext⟩
      rw [hc.other b' ?_]; exact hh
      intro hbb; subst hbb
      exact hne (h.inj i id x o' b' e' e hi' hg hb' hb)
  · intro i j oi oj b1 e1 e1' hi hj hbi hbj
    rcases hget i oi hi with ⟨rfl, rfl⟩ | ⟨hni, hnei, hgi⟩ <;> rcases hget j oj hj with ⟨rfl, rfl⟩ | ⟨hnj, hnej, hgj⟩
    · rfl
    · simp only [upd_at, if_pos] at hbi; cases hbi
      exact absurd (h.inj j id oj o' b e1' e hgj hg (upne _ _ hnj hbj) hb) hnej
    · simp only [upd_at, if_pos] at hbj; cases hbj
      exact absurd (h.inj i id oi o' b e1 e hgi hg (upne _ _ hni hbi) hb) hnei
    · exact h.inj i j oi oj b1 e1 e1' hgi hgj (upne _ _ hni hbi) (upne _ _ hnj hbj)
  · intro bb oo v hv
    obtain ⟨h1, h2⟩ := h.base bb oo v hv
    have hne : bb ≠ b := by have := hB.1; simp only at this; omega
    exact ⟨h1, by rw [← h2]; simp only [World.cell?]; rw [hc.other bb hne]⟩
  · rw [hc.size]; exact h.size
  · simp only [St.put, St.new]; rw [T.get_set_other _ _ (by omega), T.get_set_other _ _ (by omega)]
  · intro k hk hn
    refine hc.other k fun hkb => ?_
    subst hkb
    exact hn id o' e hid hg hb
  · intro i x b1 e1 hi hx hb1
    rcases hget i x hx with ⟨rfl, rfl⟩ | ⟨hni, _, hi'⟩
    · simp only [upd_at, if_pos] at hb1; cases hb1
      exact .inr ⟨id, o', e, hid, hg, hb⟩
    · exact .inr ⟨i, x, e1, hi, hi', upne _ _ hni hb1⟩
end Go.Am
