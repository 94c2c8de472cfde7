/- The season's map of standings; standings sorted by the library: by the kit's walk. Totals without those of nothing, by the reference: by the kit's walk. -/
import Derived.Test.YtbfonnoebbjenaaGreatDoorAxSg
import Derived.Test.YtbfonnoebbjenaaGreatDoorAxH
namespace Go.Proofs.Tryz
open Go Go.Am Go.RowKit Go.Op Go.Maps Go.WideMaps
set_option maxRecDepth 100000

/-! ### the sort -/
abbrev StdB (m : Nat) := {s : Std // SmS m s}
instance (m : Nat) : Inhabited (StdB m) := ⟨⟨zeroS [], SmS.zero _ _⟩⟩
def encS (m : Nat) (x : StdB m) : List Value := x.1.cells
def cfSB (m : Nat) (x y : StdB m) : Int := cfS x.1 y.1
theorem cfSB_lt (m : Nat) (x y : StdB m) : ltOf (cfSB m) x y = decide (ltS x.1 y.1) := by
  unfold ltOf cfSB
  rw [Bool.eq_iff_iff, decide_eq_true_eq, decide_eq_true_eq]
  exact cfS_lt _ _
theorem swoS (m : Nat) : Go.Sort.SWO (ltOf (cfSB m)) := by
  refine ⟨fun x => by rw [cfSB_lt]; exact decide_eq_false (ltS_irrefl _), fun x y z h1 h2 => ?_, fun x y z h1 h2 => ?_⟩
  · rw [cfSB_lt, decide_eq_true_eq] at *; exact ltS_trans h1 h2
  · rw [cfSB_lt, decide_eq_false_iff_not] at *; exact ltS_ntrans h1 h2
theorem sortS_w {m : Nat} (hm : m ≤ 10000) {W : World} {base : Nat} {v : Value} {l : List Std} (h : OwnRow W base 92 6 v (l.map Std.cells)) (hn : l.length ≤ 10000) (hsm : ∀ s ∈ l, SmS m s) (hd : NamesS l) :
    Calls prog 115 #[v, .func (.func 116) #[] #[]] W fun e w' => e = .returned (.tuple #[]) ∧ ∃ l' : List Std, l'.Perm l ∧ SortS l' ∧ OwnRow w' base 92 6 v (l'.map Std.cells) ∧ Keeps base W w' := by
  rcases h.1.2 with ⟨rfl, h0⟩ | ⟨g, cap, cur, rfl, h1, h2, h3, h4, h5, h6⟩
  · have hl : l = [] := by simpa using h0
    subst hl
    have hcon := AnyF.slices_SortFunc_none sortSSL none 0 (.func (.func 116) #[] #[]) W
    change Calls prog 115 _ _ _ at hcon
    refine hcon.mono ?_
    rintro e w' ⟨rfl, rfl⟩
    exact ⟨rfl, [], List.Perm.refl _, List.Pairwise.nil, h, Keeps.refl _ _⟩
  · obtain ⟨L, rfl⟩ : ∃ L : List (StdB m), L.map Subtype.val = l := ⟨l.pmap (fun t h => ⟨t, h⟩) hsm, by simp [List.map_pmap]⟩
    have hrow : OwnRow W base 92 6 (.slice (some ⟨g, 0, none⟩) L.length cap) (L.map (encS m)) := by
      have := h
      rw [List.length_map, List.length_map, List.map_map] at this
      exact this
    rw [List.length_map] at hn
    rw [List.length_map, List.length_map] at h h3 ⊢
    have hlt : g < W.heap.size := (Array.getElem?_eq_some_iff.1 h2).1
    have eg : ∀ args w, (callFunc 116 args).run prog w = .ok (.enter 116 args) w := enters_of func116 (by kernel_rfl) rfl
    have hcon := AnyQ.slices_SortFunc sortSSL 6 isAgg92 sizeOf92 (encS m) (fun x : StdB m => Std.len x.1) (fun x : StdB m => Std.one x.1) (cfSB m) (swoS m) 116 #[] g 0 cap L.toArray W eg
      (fun _ _ _ _ x y => rank_w hm x.2 y.2 _)
      (holdsG (fun x : StdB m => Std.len x.1) hrow) hlt (by simp; omega)
    change Calls prog 115 _ _ _ at hcon
    rw [List.size_toArray] at hcon
    refine hcon.mono ?_
    rintro e w' ⟨rfl, d', n, os, hp, hs, rfl⟩
    obtain ⟨q1, q2, q3⟩ := sorted_listG hp hs
    have hrow2 := putG (fun x : StdB m => Std.len x.1) (n := n) (os := os) hrow q3
    refine ⟨rfl, d'.toList.map Subtype.val, q1.map _, ?_, ?_, keepsG h1⟩
    · have hd2 : (d'.toList.map Subtype.val).Pairwise fun a b => a.t ≠ b.t := (List.Perm.pairwise_iff (fun {a b} h => Ne.symm h) (q1.map Subtype.val)).2 hd
      unfold SortS
      rw [List.pairwise_map] at hd2 ⊢
      refine (List.Pairwise.and hd2 q2).imp ?_
      rintro x y ⟨hne, hno⟩
      rw [cfSB_lt, decide_eq_false_iff_not] at hno
      exact Classical.byContradiction fun h => hne (ltS_conn h hno)
    · rw [List.map_map]
      exact hrow2

/-! ### the map -/
def ptrV : Option Nat → Value
  | none => .pointer none
  | some b => .pointer (some ⟨b, 0, none⟩)
noncomputable def HeldP (v : Value) : Option (DataW Value × List MemPlace) := open Classical in if ∃ o, v = ptrV o then some (.held v, []) else none
theorem held_ptr (o : Option Nat) : HeldP (ptrV o) = some (.held (ptrV o), []) := if_pos ⟨o, rfl⟩
theorem heldP_inv {v : Value} {y : DataW Value × List MemPlace} (h : HeldP v = some y) : ∃ o, v = ptrV o ∧ y = (.held (ptrV o), []) := by
  unfold HeldP at h
  split at h
  · rename_i hq
    obtain ⟨t, rfl⟩ := hq
    exact ⟨t, rfl, (Option.some.inj h).symm⟩
  · cases h
theorem ptrV_inj {a b : Option Nat} (h : ptrV a = ptrV b) : a = b := by
  cases a <;> cases b <;> simp [ptrV] at h ⊢
  exact h
def hasS (p : List UInt8) (L : List Std) : Bool := (getS p L).isSome
theorem hasS_iff {p : List UInt8} {L : List Std} : hasS p L = true ↔ ∃ s ∈ L, s.t = p := by
  unfold hasS
  constructor
  · intro h
    obtain ⟨s, hs⟩ := Option.isSome_iff_exists.1 h
    exact ⟨s, getS_some hs⟩
  · rintro ⟨s, hs, e⟩
    cases hg : getS p L with
    | none => exact absurd e (getS_none hg s hs)
    | some x => rfl
/-- The map reads as the list: each name has a box. -/
def SpecP (D : DataW Value) (L : List Std) (blk : List UInt8 → Nat) : Prop := IsMap D ∧ ∀ p z, D.atKey (.string p) z = if hasS p L = true then .held (ptrV (some (blk p))) else z
structure MapS (w : World) (mb k base : Nat) (L : List Std) (blk : List UInt8 → Nat) : Prop where
  own : ∃ D, w.ownsMap prog 9 HeldP mb k D ∧ SpecP D L blk
  box : ∀ s ∈ L, At w (blk s.t) s.arr 92 ∧ base ≤ blk s.t
  inj : ∀ s ∈ L, ∀ s' ∈ L, blk s.t = blk s'.t → s.t = s'.t
theorem MapS.below {w W : World} {mb k base : Nat} {L : List Std} {blk : List UInt8 → Nat} (h : MapS w mb k base L blk) (hb : Below w.heap.size w W) : MapS W mb k base L blk := by
  obtain ⟨⟨D, h1, h2⟩, h3, h4⟩ := h
  exact ⟨⟨D, h1.kept (row := none) ⟨hb.os, hb.tape, hb.output, hb.size, fun k hk _ => hb.block k hk⟩ (by simp), h2⟩, fun s hs => ⟨(h3 s hs).1.below hb (h3 s hs).1.lt, (h3 s hs).2⟩, h4⟩
theorem MapS.made (w : World) (base : Nat) : MapS (w.alloc (.map #[] 0)) w.heap.size 0 base [] (fun _ => 0) :=
  ⟨⟨_, World.ownsMap_made w prog 9 HeldP, isMap_empty, fun _ _ => rfl⟩, fun _ h => absurd h List.not_mem_nil, fun _ h => absurd h List.not_mem_nil⟩
theorem zero178 (w : World) : (zeroValue 178).run prog w = .ok (.pointer none) w := by kernel_rfl
theorem mapS_look {L : List Std} {blk : List UInt8 → Nat} {mb k base : Nat} {W : World} (h : MapS W mb k base L blk) {p : List UInt8} (hn : p.length ≤ maxLen) :
    (Instr.lookup 177 (.map (some mb)) (.string (bA p)) false).run prog W = .ok (ptrV (if hasS p L = true then some (blk p) else none)) W := by
  obtain ⟨⟨D, h1, h2⟩, -, -⟩ := h
  have hkey : keyOf prog 9 (.string (bA p)) = some (.string p) := by
    rw [keyOf_string_mk (by kernel_rfl) (by rw [bA_size]; exact hn)]; rfl
  obtain ⟨v, ps, hrun, hv⟩ := h1.lookup (t := 177) (e := 178) (string_keyed (by kernel_rfl)) (by kernel_rfl) (zero178 W) (zd := .held (ptrV none)) (zp := []) (held_ptr none) hkey
  rw [h2.2] at hv
  rw [hrun]
  obtain ⟨t, rfl, e⟩ := heldP_inv hv
  simp only [Prod.mk.injEq] at e
  by_cases hg : hasS p L = true
  · rw [if_pos hg] at e ⊢; simp only [DataW.held.injEq] at e; rw [← e.1]
  · rw [if_neg hg] at e ⊢; simp only [DataW.held.injEq] at e; rw [← e.1]
theorem map_ne_cells {w : World} {mb k : Nat} {D : DataW Value} (h : w.ownsMap prog 9 HeldP mb k D) {b e : Nat} {cs : Array Value} (hb : At w b cs e) : b ≠ mb := by
  intro q
  obtain ⟨es, clock, h1, -⟩ := h
  unfold At at hb
  rw [q, h1] at hb
  cases hb
/-- A name more, with a box of its own. -/
theorem MapS.name {w w1 : World} {mb k base nb : Nat} {L : List Std} {blk : List UInt8 → Nat} {D : DataW Value} {p : List UInt8} (hD : SpecP D L blk) (h : MapS w mb k base L blk) (hnb : At w nb (zeroS p).arr 92) (hnbb : base ≤ nb) (hfr : ∀ s ∈ L, blk s.t ≠ nb) (hno : hasS p L = false)
    (ho : w1.ownsMap prog 9 HeldP mb (k + 1) (D.put (.string p) (.held (ptrV (some nb))))) (hg : w.grownBy w1 (some mb)) : MapS w1 mb (k + 1) base (L ++ [zeroS p]) (fun q => if q = p then nb else blk q) := by
  obtain ⟨⟨D0, h1, -⟩, h3, h4⟩ := h
  have hnot : ∀ s ∈ L, s.t ≠ p := fun s hs e => by rw [hasS_iff.2 ⟨s, hs, e⟩] at hno; cases hno
  have hkeep : ∀ {b : Nat} {cs : Array Value}, At w b cs 92 → At w1 b cs 92 := fun {b cs} ha => (hg.block b ha.lt (fun e => map_ne_cells h1 ha (by cases e; rfl))).trans ha
  refine ⟨⟨_, ho, hD.1.put _ _, fun q z => ?_⟩, fun s hs => ?_, fun s hs s' hs' e => ?_⟩
  · by_cases hq : q = p
    · subst hq
      have hh : hasS q (L ++ [zeroS q]) = true := hasS_iff.2 ⟨zeroS q, by simp, rfl⟩
      rw [atKey_put_same hD.1 (by first | exact trivial | simp [WideAt.IsKeyLit]), if_pos hh]
      dsimp only
      rw [if_pos rfl]
    · rw [atKey_put_other (by intro e; apply hq; injection e with e), hD.2]
      dsimp only
      rw [if_neg hq]
      have : hasS q (L ++ [zeroS p]) = hasS q L := by
        rw [Bool.eq_iff_iff, hasS_iff, hasS_iff]
        constructor
        · rintro ⟨s, hs, e⟩
          rcases List.mem_append.1 hs with h | h
          · exact ⟨s, h, e⟩
          · rw [List.mem_singleton.1 h] at e; exact absurd e.symm hq
        · rintro ⟨s, hs, e⟩; exact ⟨s, List.mem_append_left _ hs, e⟩
      rw [this]
  · rcases List.mem_append.1 hs with h | h
    · rw [if_neg (hnot s h)]
      exact ⟨hkeep (h3 s h).1, (h3 s h).2⟩
    · rw [List.mem_singleton.1 h]
      rw [show (zeroS p).t = p from rfl, if_pos rfl]
      exact ⟨hkeep hnb, hnbb⟩
  · rcases List.mem_append.1 hs with h | h
    · rcases List.mem_append.1 hs' with h' | h'
      · rw [if_neg (hnot s h), if_neg (hnot s' h')] at e
        exact h4 s h s' h' e
      · rw [List.mem_singleton.1 h', if_neg (hnot s h), show (zeroS p).t = p from rfl, if_pos rfl] at e
        exact absurd e (hfr s h)
    · rcases List.mem_append.1 hs' with h' | h'
      · rw [List.mem_singleton.1 h, if_neg (hnot s' h'), show (zeroS p).t = p from rfl, if_pos rfl] at e
        exact absurd e.symm (hfr s' h')
      · rw [List.mem_singleton.1 h, List.mem_singleton.1 h']
theorem hasS_bump {p q : List UInt8} {o h : Int} {L : List Std} (hp : hasS p L = true) : hasS q (bump p o h L) = hasS q L := by
  rw [Bool.eq_iff_iff, hasS_iff, hasS_iff]
  constructor
  · rintro ⟨s, hs, e⟩
    rcases bump_name hs with r | r
    · rw [← e, r]; exact hasS_iff.1 hp
    · exact ⟨s, r, e⟩
  · rintro ⟨s, hs, e⟩
    obtain ⟨x, h1, h2⟩ := bump_le (p := p) (o := o) (h := h) hs
    exact ⟨x, h1, h2.trans e⟩
theorem MapS.add {w w1 : World} {mb k base : Nat} {L : List Std} {blk : List UInt8 → Nat} (h : MapS w mb k base L blk) (hn : NamesS L) {p : List UInt8} {s : Std} (hs : getS p L = some s) (o g : Int) (ha : At w1 (blk p) (addS s o g).arr 92) (hg : w.grownBy w1 (some (blk p))) :
    MapS w1 mb k base (bump p o g L) blk := by
  obtain ⟨⟨D, h1, h2⟩, h3, h4⟩ := h
  obtain ⟨hs1, hs2⟩ := getS_some hs
  have hb0 := h3 s hs1
  rw [hs2] at hb0
  have hhas : hasS p L = true := hasS_iff.2 ⟨s, hs1, hs2⟩
  refine ⟨⟨D, h1.kept (row := some (blk p)) hg (fun e => map_ne_cells h1 hb0.1 (by cases e; rfl)), h2.1, fun q z => by rw [h2.2, hasS_bump hhas]⟩, fun x hx => ?_, fun x hx x' hx' e => ?_⟩
  · rcases (bump_mem hn).1 hx with r | ⟨r1, r2⟩
    · rw [hs] at r
      simp only [Option.getD_some] at r
      have : x.t = p := by rw [r]; exact hs2
      rw [this, r]
      exact ⟨ha, hb0.2⟩
    · have h5 := h3 x r2
      exact ⟨(hg.block _ h5.1.lt (fun e => r1 (by
        have := h4 x r2 s hs1 (by rw [hs2]; exact Option.some.inj e)
        rw [this, hs2]))).trans h5.1, h5.2⟩
  · have key : ∀ x ∈ bump p o g L, ∃ y ∈ L, y.t = x.t := fun x hx => by
      rcases bump_name hx with r | r
      · exact ⟨s, hs1, hs2.trans r.symm⟩
      · exact ⟨x, r, rfl⟩
    obtain ⟨y, hy, ey⟩ := key x hx
    obtain ⟨y', hy', ey'⟩ := key x' hx'
    rw [← ey, ← ey'] at e ⊢
    exact h4 y hy y' hy' e
theorem bump_has {p : List UInt8} {o g : Int} {L : List Std} (h : hasS p L = false) : bump p o g (L ++ [zeroS p]) = bump p o g L := by
  have hno : ∀ s ∈ L, s.t ≠ p := fun s hs e => by rw [hasS_iff.2 ⟨s, hs, e⟩] at h; cases h
  rw [bump_new fun j x hj hx => hno x (List.mem_of_getElem? hx)]
  rw [bump_at (p := p) (i := L.length) (s := zeroS p) (fun j x hj hx => by
    rw [List.getElem?_append_left hj] at hx
    exact hno x (List.mem_of_getElem? hx)) (by simp) rfl]
  simp
theorem names_more {p : List UInt8} {L : List Std} (hn : NamesS L) (h : hasS p L = false) : NamesS (L ++ [zeroS p]) := by
  unfold NamesS
  refine List.pairwise_append.2 ⟨hn, List.pairwise_singleton _ _, fun x hx y hy => ?_⟩
  rw [List.mem_singleton.1 hy]
  intro e
  rw [hasS_iff.2 ⟨x, hx, (show x.t = p from e)⟩] at h
  cases h
theorem getS_more {p : List UInt8} {L : List Std} (h : hasS p L = false) : getS p (L ++ [zeroS p]) = some (zeroS p) := by
  unfold hasS at h
  cases hg : getS p L with
  | some x => rw [hg] at h; cases h
  | none =>
    unfold getS at hg ⊢
    rw [List.find?_append, hg]
    simp [zeroS]

/-! ### what is collected -/
theorem perm_mem {α : Type} : ∀ {l m : List α}, l.Nodup → m.Nodup → (∀ x, x ∈ l ↔ x ∈ m) → l.Perm m
  | [], m, _, _, h => by
    cases m with
    | nil => exact List.Perm.refl _
    | cons x r => exact absurd ((h x).2 (by simp)) List.not_mem_nil
  | x :: r, m, hl, hm, h => by
    obtain ⟨A, B, rfl⟩ := List.append_of_mem ((h x).1 (by simp))
    obtain ⟨h1, h2⟩ := List.nodup_cons.1 hl
    have hm2 : (x :: (A ++ B)).Nodup := (List.Perm.nodup_iff List.perm_middle).1 hm
    obtain ⟨h3, h4⟩ := List.nodup_cons.1 hm2
    have ih := perm_mem (l := r) (m := A ++ B) h2 h4 fun y => by
      constructor
      · intro hy
        have := (h y).1 (by simp [hy])
        simp only [List.mem_append, List.mem_cons] at this ⊢
        rcases this with q | q | q
        · exact .inl q
        · subst q; exact absurd hy h1
        · exact .inr q
      · intro hy
        have := (h y).2 (by simp only [List.mem_append, List.mem_cons] at hy ⊢; rcases hy with q | q; exact .inl q; exact .inr (.inr q))
        rcases List.mem_cons.1 this with q | q
        · subst q; exact absurd hy h3
        · exact q
    exact (List.Perm.cons x ih).trans List.perm_middle.symm
structure GoodS (L : List Std) (left : Lit → Bool) (Lo : List Std) : Prop where
  nodup : NamesS Lo
  mem : ∀ t, t ∈ Lo ↔ (t ∈ L ∧ left (.string t.t) = false)
  len : Lo.length ≤ L.length
theorem pairwise_lenS : ∀ {Lo L : List Std}, NamesS Lo → (∀ t ∈ Lo, t ∈ L) → Lo.length ≤ L.length
  | [], _, _, _ => Nat.zero_le _
  | x :: r, L, h, hm => by
    obtain ⟨h1, h2⟩ := List.pairwise_cons.1 h
    obtain ⟨A, B, rfl⟩ := List.append_of_mem (hm x (by simp))
    have ih := pairwise_lenS (L := A ++ B) h2 fun t ht => by
      have := hm t (by simp [ht])
      have hne : t ≠ x := fun e => h1 t ht (by rw [e])
      simp only [List.mem_append, List.mem_cons] at this ⊢
      rcases this with q | q | q
      · exact .inl q
      · exact absurd q hne
      · exact .inr q
    simp only [List.length_append, List.length_cons] at ih ⊢
    omega
theorem GoodS.start {D : DataW Value} {L : List Std} {blk : List UInt8 → Nat} (h : SpecP D L blk) : GoodS L (Maps.has D) [] :=
  ⟨List.Pairwise.nil, fun t => ⟨fun h => absurd h List.not_mem_nil, fun ⟨a, c⟩ => by
    have : Maps.has D (.string t.t) = true := has_true_of_atKey (y := .held (ptrV (some (blk t.t)))) fun z => by rw [h.2, if_pos (hasS_iff.2 ⟨t, a, rfl⟩)]
    rw [this] at c; cases c⟩, Nat.zero_le _⟩
theorem GoodS.more {L Lo : List Std} {left : Lit → Bool} (h : GoodS L left Lo) (hs : NamesS L) {t : Std} (ht : t ∈ L) (hl : left (.string t.t) = true) : GoodS L (fun z => left z && !z.sameKey (.string t.t)) (Lo ++ [t]) := by
  have hne : ∀ x ∈ Lo, x.t ≠ t.t := fun x hx e => by
    have := ((h.mem x).1 hx).2
    rw [e, hl] at this; cases this
  have hm : ∀ x, x ∈ Lo ++ [t] ↔ (x ∈ L ∧ (left (.string x.t) && !(Lit.string x.t).sameKey (.string t.t)) = false) := fun x => by
    rw [List.mem_append, List.mem_singleton, h.mem x]
    constructor
    · rintro (⟨a, c⟩ | rfl)
      · exact ⟨a, by simp [c]⟩
      · exact ⟨ht, by simp [same_lit]⟩
    · rintro ⟨a, c⟩
      simp only [same_lit, Bool.and_eq_false_iff, Bool.not_eq_false', decide_eq_true_eq] at c
      rcases c with c | c
      · exact .inl ⟨a, c⟩
      · right
        have e1 := getS_get hs a
        have e2 := getS_get hs ht
        rw [c] at e1
        rw [e1] at e2
        exact Option.some.inj e2
  have hp : NamesS (Lo ++ [t]) := List.pairwise_append.2 ⟨h.nodup, List.pairwise_singleton _ _, fun x hx y hy => by rw [List.mem_singleton.1 hy]; exact hne x hx⟩
  exact ⟨hp, hm, pairwise_lenS hp fun x hx => ((hm x).1 hx).1⟩
/-- All have been collected. -/
theorem GoodS.fin {L Lo : List Std} {left : Lit → Bool} (h : GoodS L left Lo) (hs : NamesS L) (hl : ∀ z, left z = false) : Lo.Perm L := by
  have hm : ∀ t, t ∈ Lo ↔ t ∈ L := fun t => by rw [h.mem t]; simp [hl]
  have nd : ∀ {M : List Std}, NamesS M → M.Nodup := fun hM => List.Pairwise.imp (fun h e => h (by rw [e])) hM
  exact perm_mem (nd h.nodup) (nd hs) hm
theorem spec_key {D : DataW Value} {L : List Std} {blk : List UInt8 → Nat} (h : SpecP D L blk) {p : List UInt8} {c : Option Nat} (hat : ∀ z, D.atKey (.string p) z = .held (ptrV c)) : ∃ s ∈ L, s.t = p ∧ c = some (blk p) := by
  have h1 := hat .nil
  rw [h.2] at h1
  by_cases hg : hasS p L = true
  · rw [if_pos hg] at h1
    simp only [DataW.held.injEq] at h1
    obtain ⟨s, hs, e⟩ := hasS_iff.1 hg
    exact ⟨s, hs, e, (ptrV_inj h1).symm⟩
  · rw [if_neg hg] at h1; cases h1
theorem invVP : ∀ v y, HeldP v = some y → ∃ c : Option Nat, v = ptrV c := fun _ _ h => let ⟨t, e, _⟩ := heldP_inv h; ⟨t, e⟩
theorem owns_not_mapP {w : World} {base e m kx : Nat} {v : Value} {xs : List Value} {o : Obj} {b n : Nat} {D : DataW Value} (hu : (w.alloc o).ownsRow base e m v kx xs) (hm : w.ownsMap prog 9 HeldP b n D) (he : v.ownBlock = some b) : False := by
  obtain ⟨c, fz, hc⟩ := Lib.ownsRow_kind hu b he
  obtain ⟨es, clock, hb, -⟩ := hm
  rw [old1 hb o] at hc
  cases hc
theorem info92 : (prog.info? 92).map (fun i => (i.zero, i.size, i.bytes)) = some (some (.agg #[.string ⟨#[]⟩, .int .i64 0, .int .i64 0, .int .i64 0, .int .i64 0, .int .i64 0]), 6, 56) := by kernel_rfl
theorem el92 : ∃ i, ElT 86 92 6 i (.agg #[.string ⟨#[]⟩, .int .i64 0, .int .i64 0, .int .i64 0, .int .i64 0, .int .i64 0]) 56 := by
  obtain ⟨i0, hi, hz0, hz1, hz2⟩ := info_more info92
  exact ⟨i0, by kernel_rfl, hi, hz0, hz1, hz2, rfl, by decide, by decide⟩
theorem run_slice92 (w : World) (s : Std) : (Instr.buildSlice 86 1 #[(0, .agg s.arr)]).run prog w = .ok (.slice (some ⟨w.heap.size, 0, none⟩) 1 1) (w.alloc (.cells s.arr 92)) := by unfold Std.arr; simp [go_sem]
end Go.Proofs.Tryz

namespace Go.Proofs.Tryz
open Go Go.Am Go.RowKit Go.Op
set_option maxRecDepth 100000

end Go.Proofs.Tryz
