/- Split, Trim and Contains of package strings, as Parse calls them: by the shelf. The words of a string: the iterator's contract. A row whose law asks for what a variable of the library's own holds. A range over a function whose iterator writes one box of its own between two rounds. The lines of a text: strings.Lines as an iterator that writes a box of its own; CutSuffix. Parse of the program: what a round over the words keeps. -/
import Derived.Test.YthlmjjdlmidnlaaGreatDoorAtDu
import Derived.Test.YthlmjjdlmidnlaaGreatDoorAsQu
import Derived.RangeFuncNested
import Derived.RangeFuncBound
import Derived.RangeFuncCalls
import Derived.RangeFuncLeaves
import Derived.Shelf.Abstract
import Derived.Shelf.RegionOpen
import Derived.WalkKit
import Derived.OwnWalkIn
import Derived.TacticsInMore
import Derived.LoopNIn
import Derived.LoopIn
import Derived.Test.YthlmjjdlmidnlaaGreatDoorArOu
import Derived.Shelf.Vars
import Derived.Test.YthlmjjdlmidnlaaGreatDoorAtGu
import Derived.Test.YthlmjjdlmidnlaaGreatDoorAsAku
import Derived.RangeFuncFrom
namespace Go.Proofs.Tryz
open Go Go.Am Go.RowKit Go.Dr
set_option maxRecDepth 100000

/-- The library's variable that strings.Index reads holds some number. -/
def MaxL (w : World) : Prop := ∃ m, w.cell? ⟨2, 0, none⟩ = some (.int .i64 m)
theorem MaxL.below {w W : World} (h : MaxL w) (hb : Below w.heap.size w W) : MaxL W := by
  obtain ⟨m, hm⟩ := h
  exact ⟨m, (hb.cell (cell_under hm)).trans hm⟩

theorem bA_data (s : ByteArray) : bA s.data.toList = s := by
  cases s
  simp [bA]
theorem split_vals (l : List UInt8) : (Lib.splitB ⟨#[32]⟩ 0 (Lib.countB (bA l) ⟨#[32]⟩) (bA l)).map Value.string = (spl 32 l).map strV := by
  have h := splitB_spl (bA l) 32
  have e : (bA l).data.toList = l := rfl
  rw [e] at h
  rw [← h, List.map_map]
  apply List.map_congr_left
  intro s _
  show Value.string s = Value.string (bA s.data.toList)
  rw [bA_data]
theorem split_w (l : List UInt8) (hl : l.length ≤ 1000000) (w : World) (hm : MaxL w) :
    Calls prog 123 #[.string (bA l), .string { data := #[32] }] w fun e w' => e = .returned (.slice (some ⟨w.heap.size, 0, none⟩) (spl 32 l).length (spl 32 l).length) ∧ w' = w.alloc (.cells ((spl 32 l).map strV).toArray 9) := by
  obtain ⟨m, hm⟩ := hm
  have h := Any.strings_Split splitSL (by kernel_rfl) (bA l) ⟨#[32]⟩ m w (by rw [bA_size]; omega) hm (by decide)
  have e := split_vals l
  have el : Lib.countB (bA l) ⟨#[32]⟩ + 1 = (spl 32 l).length := by
    have := congrArg List.length e
    rw [List.length_map, List.length_map, Lib.splitB_all ⟨#[32]⟩ (by decide) 0 _ _ rfl] at this
    exact this
  rw [e, el] at h
  exact h

def pitS : ByteArray := { data := #[66, 67, 83, 70, 88, 72] }
theorem trim_w (l : List UInt8) (hl : l.length ≤ 1000000) (w : World) :
    Calls prog 86 #[.string (bA l), .string { data := #[66, 67, 83, 70, 88, 72] }] w fun e w' => (∃ z, e = .returned (.string (bA z)) ∧ (z = [] ↔ l.all pitB = true)) ∧ Below w.heap.size w w' := by
  refine (Any.strings_Trim_laid trimSL (by kernel_rfl) (bA l) pitS w (by rw [bA_size]; omega) (by decide) (ascii_of_all (by decide))).mono ?_
  rintro e w' ⟨rfl, hb⟩
  refine ⟨⟨Lib.trimS l [66, 67, 83, 70, 88, 72], rfl, ?_⟩, hb⟩
  rw [trim_all, List.all_eq_true]
  exact Iff.rfl

theorem index_one (c : UInt8) : ∀ l : List UInt8, (0 ≤ Lib.index l [c]) ↔ c ∈ l
  | [] => by simp [Lib.index]
  | b :: l => by
    have ih := index_one c l
    have hge := Lib.index_ge l [c]
    rw [Lib.index]
    by_cases h : c = b
    · subst h
      simp [List.isPrefixOf]
    · have hp : ([c] : List UInt8).isPrefixOf (b :: l) = false := by simp [List.isPrefixOf, h]
      rw [hp]
      by_cases hm : Lib.index l [c] = -1
      · rw [hm] at ih
        simp [hm, h]
        exact fun q => absurd (ih.2 q) (by decide)
      · have : ¬ (Lib.index l [c] == -1) = true := fun q => hm (beq_iff_eq.1 q)
        simp [this, h]
        rw [← ih]
        omega
theorem contains_one (l : List UInt8) (c : UInt8) : Lib.contains l [c] = l.contains c := by
  unfold Lib.contains
  rw [Bool.eq_iff_iff, decide_eq_true_eq, List.contains_iff_mem]
  exact index_one c l
theorem contains_w (b : UInt8) (w : World) (hm : MaxL w) :
    Calls prog 72 #[.string { data := #[75, 87, 72, 73, 88, 78, 89] }, .string (bA [b])] w fun e w' => e = .returned (.bool (evB b)) ∧ w' = w := by
  obtain ⟨m, hm⟩ := hm
  have h := Any.strings_Contains containsSL (⟨#[75, 87, 72, 73, 88, 78, 89]⟩ : ByteArray) (bA [b]) m w (by decide) hm
  have e : Lib.contains (⟨#[75, 87, 72, 73, 88, 78, 89]⟩ : ByteArray).data.toList (bA [b]).data.toList = evB b := contains_one _ _
  rw [e] at h
  exact h
end Go.Proofs.Tryz

namespace Go.Proofs.Tryz
open Go Go.Am Go.RowKit Go.Dr Go.Shelf
set_option maxRecDepth 100000
attribute [local go_sem] Oper.semAt_some

/-- Blocks of strings stay as they are. -/
def Kp9 (W W' : World) : Prop := ∀ (k : Nat) (cs : Array Value) (fr : Nat × Nat), W.heap[k]? = some (.cells cs 9 fr) → W'.heap[k]? = W.heap[k]?
theorem Kp9.t {A B C : World} (h : Kp9 A B) (k : Kp9 B C) : Kp9 A C := fun i cs fr hi => (k i cs fr ((h i cs fr hi).trans hi)).trans (h i cs fr hi)
theorem kp9_b {w : World} (W : World) (l : Nat) (o o' : Obj) (_ : w.heap.size ≤ l) (h : W.heap[l]? = some o) (hc : o.isCells = false) (_ : o.isWalk = false) : Kp9 W (W.putObj l o') := fun i cs fr hi => by
  refine World.putObj_heap_other fun e => ?_
  subst e
  rw [hi] at h
  cases h
  cases hc

/-- The words with the places where they begin. -/
def withAt : Nat → List (List UInt8) → List (Nat × List UInt8)
  | _, [] => []
  | k, w :: r => (k, w) :: withAt (k + w.length + 1) r
theorem withAt_len : ∀ (k : Nat) (ws : List (List UInt8)), (withAt k ws).length = ws.length
  | _, [] => rfl
  | k, w :: r => by rw [withAt, List.length_cons, List.length_cons, withAt_len]
theorem withAt_get : ∀ (k : Nat) (ws : List (List UInt8)) (i : Nat) (w : List UInt8), ws[i]? = some w → (withAt k ws)[i]? = some (k + atW (ws.take i), w)
  | k, x :: r, 0, w, h => by
    simp at h; subst h
    simp [withAt, atW]
  | k, x :: r, i + 1, w, h => by
    rw [withAt, List.getElem?_cons_succ, withAt_get _ r i w (by simpa using h), List.take_succ_cons, atW]
    congr 2; omega
  | _, [], _, _, h => by simp at h
def encW (x : Nat × List UInt8) : Array Value := #[.int .i64 (x.1 : Int), .string (bA (x.2.take 4096))]
theorem atW_take_le {ws : List (List UInt8)} {i : Nat} : atW (ws.take i) ≤ atW ws := by
  have := atW_append (ws.take i) (ws.drop i)
  rw [List.take_append_drop] at this
  omega

set_option maxHeartbeats 3200000 in
theorem words_stops (n : Nat) (hn : 2 ≤ n) (l : List UInt8) (hl : l.length ≤ 4096) (B : Nat) (w : World) (hm : MaxL w) (hs : w.cell? ⟨B, 0, none⟩ = some (.string (bA l))) :
    SeqStopsK Fence.wide n prog 122 #[.pointer (some ⟨B, 0, none⟩)] encW Kp9 (fun xs => xs = withAt 0 (spl 32 l)) (fun pre => pre <+: withAt 0 (spl 32 l)) (spl 32 l).length w := fun l' J Jx W hW hJ hJx hY h0 => by
  have hsW : W.cell? ⟨B, 0, none⟩ = some (.string (bA l)) := (hW.cell (cell_under hs)).trans hs
  have hmW := hm.below hW
  have cS := split_w l (by omega) W hmW
  refine callsIn_of_wp func122 rfl trivial ?_ rfl
  simp only [ntmps122, List.size_toArray, List.length_cons, List.length_nil, Nat.reduceAdd, Nat.reduceSub, Array.replicate_succ, Array.replicate_zero, List.push_toArray, List.append_toArray, List.nil_append, List.cons_append]
  have h1 : 1 ≤ n := by omega
  have hg : ∀ j x, (spl 32 l)[j]? = some x → (W.alloc (.cells ((spl 32 l).map strV).toArray 9)).cell? ⟨W.heap.size, j, none⟩ = some (.string (bA x)) := fun j x hj => by
    rw [cell_new _ _ _ _ rfl, List.getElem?_toArray, List.getElem?_map, hj]; rfl
  have hat := at_new W ((spl 32 l).map strV).toArray 9
  have hJ1 : J [] (W.alloc (.cells ((spl 32 l).map strV).toArray 9)) := hJ _ _ _ none h0 (World.grownBy_alloc W _ none) (fun r e => by cases e)
  have hwl : ∀ x ∈ spl 32 l, x.length ≤ 4096 := fun x hx => by
    obtain ⟨r, z, hrz⟩ := List.append_of_mem hx
    have := atW_spl l
    rw [hrz, atW_append, atW] at this
    omega
  have hal := atW_spl l
  have hcl : (spl 32 l).length ≤ 4097 := by
    rw [spl_length]
    have := List.count_le_length (a := (32 : UInt8)) (l := l)
    omega
  gi_wp2_with (refine ⟨trivial, ?_⟩; gi_at_call 123; refine (callsIn_wide.2 cS).mono ?_; rintro e w' ⟨rfl, rfl⟩)
  clear cS h0 hsW hmW hm hs hW
  generalize hGd : W.heap.size = G at *
  generalize W.alloc (.cells ((spl 32 l).map strV).toArray 9) = W1 at hg hat hJ1 ⊢
  obtain ⟨ws, hws⟩ : ∃ ws, spl 32 l = ws := ⟨_, rfl⟩
  rw [hws] at hY hg hat hwl hal hcl ⊢
  gi_loopw [3, 9] (fun s3 s9 wr => ∃ i : Nat, i ≤ ws.length ∧ s9 = .int .i64 i ∧ s3 = .int .i64 ((atW (ws.take i) : Nat) : Int) ∧ J ((withAt 0 ws).take i) wr ∧ At wr G (ws.map strV).toArray 9) (fun _ s9 _ => ws.length - (numOf' s9).toNat)
  case atStart => exact ⟨0, Nat.zero_le _, rfl, rfl, hJ1, hat⟩
  case round =>
    clear hJ1 hg hat
    obtain ⟨i, hi, rfl, rfl, hJi, hat⟩ := hrel
    by_cases hin : i < ws.length
    · obtain ⟨x, hx⟩ : ∃ x, ws[i]? = some x := ⟨_, List.getElem?_eq_getElem hin⟩
      have hxl := hwl x (List.mem_of_getElem? hx)
      have hcx : wr.cell? ⟨G, i, none⟩ = some (.string (bA x)) := by
        unfold World.cell?
        unfold At at hat
        rw [hat]
        show ((ws.map strV).toArray)[i]? = _
        rw [List.getElem?_toArray, List.getElem?_map, hx]; rfl
      have hy0 := hY ((withAt 0 ws).take i) (atW (ws.take i), x) wr hJi (by rw [List.length_take, withAt_len]; omega)
      have hpre : (withAt 0 ws).take i ++ [(atW (ws.take i), x)] = (withAt 0 ws).take (i + 1) := by
        rw [List.take_add_one, withAt_get 0 ws i x hx, Nat.zero_add]; rfl
      have hstep : atW (ws.take (i + 1)) = atW (ws.take i) + x.length + 1 := by
        rw [List.take_add_one, hx]
        exact atW_snoc x _
      have hle := atW_take_le (ws := ws) (i := i + 1)
      rw [hpre] at hy0
      have een : encW (atW (ws.take i), x) = #[.int .i64 ((atW (ws.take i) : Nat) : Int), .string (bA x)] := by
        unfold encW
        rw [List.take_of_length_le hxl]
      rw [een] at hy0
      obtain ⟨fn, tmps, assign, body, hy, hR⟩ := hy0
      have hsz : (bA x).size = x.length := bA_size x
      obtain ⟨k, hk⟩ : ∃ k, atW (ws.take i) = k := ⟨_, rfl⟩
      rw [hk] at hy hstep ⊢
      have HST := Lib.hid hstep
      have hkb : k + x.length + 1 ≤ 4097 := by omega
      clear hstep hle een hpre hJi hY hk hal
      gi_wp2
      refine hR.mono ?_
      rintro e W3 (⟨rfl, hJ3, hk3⟩ | ⟨rfl, hJx3⟩)
      · have hat3 : At W3 G (ws.map strV).toArray 9 := (hk3 G _ _ hat).trans hat
        clear hR hy hcx hat hk3
        gi_wp2
        go_roundw
        case rel => exact ⟨i + 1, by omega, by go_num, by rw [HST.out]; go_num, hJ3, hat3⟩
        case measure => simp [numOf'] <;> omega
      · gi_wp2
        refine bodyPost_ret (results_none rfl _ _ _) rfl ?_
        exact ⟨⟨_, rfl⟩, .inr ⟨_, by rw [hws]; exact List.take_prefix (i + 1) _, hJx3⟩⟩
    · have hil : i = ws.length := by omega
      have HJ := Lib.hid hJi
      clear hJi
      gi_wp2
      go_end0
      refine ⟨⟨_, rfl⟩, .inl ⟨_, ?_, HJ.out⟩⟩
      rw [List.take_of_length_le (by rw [withAt_len]; omega), hws]
end Go.Proofs.Tryz

namespace Go.Proofs.Tryz
open Go Go.Am Go.ChangeShapes Go.WideShapes Go.ChangeAt Go.RowKit
open YthlmjjdlmidnlaaGreatDoor
set_option maxRecDepth 100000

theorem max_of {w : World} (h : w.ShapedOpen prog) : MaxL w :=
  cell_of_shapedOpen_int (g := 2) (zero := #[.int .i64 0]) (t := 3) h (of_decide_eq_true (by kernel_rfl)) (by kernel_rfl) rfl (by kernel_rfl) (by kernel_rfl) underlying3
theorem handed_shaped {H : Type} {enc : TypeId × Value → H} {a : Assume} {C : Checked} {os : Os} {f : FuncId} {fn : Func} {s : ChangeSpec} {conds : List PathCond} {apart fresh handsOn again : Bool} {X : World → Array Value → Prop}
    (hX : ∀ (w w' : World) (args : Array Value), w.heap = w'.heap → X w args → X w' args)
    (own : ownKnob C.prog.godebug = none) (started : os.Started) (noInit : C.prog.inits.idxOf? f = none) (hfn : C.prog.funcs[f]? = some fn)
    (witness : ∃ (w : World) (tape : Tape) (i : Input), w.os = os ∧ (w.forCall tape i).Shaped C.prog ∧ i.vars = [] ∧ Input.okWide C.prog (w.forCall tape i) .any w.heap.size f i ∧
      ((s.pre enc C.prog fn conds apart (w.forCall tape i).memory i.args ∧ X (w.forCall tape i).memory i.args) ∧ sizedMet enc C.prog fn (OpenSpec.ofChange s) apart (w.forCall tape i).memory i.args) ∧ a.holds C.prog (lone (Frame.enter C.prog f i.args .normal) [] (w.forCall tape i)))
    (contract : ∀ (W : World) (args : Array Value) (ds gs : List (DataW H)) (before : List MemPlace) (base : Nat), (∀ (j : Nat) t v, fn.params[j]? = some t → args[j]? = some v → Value.okWide C.prog W .any base t v) →
      DataW.Whole enc C.prog fn.params.toList s.vars apart W args.toList ds gs before → X W args → W.ShapedOpen C.prog → Calls C.prog f args W fun e W' => ∃ v, e = .returned v ∧ s.post enc C.prog fn apart fresh handsOn again W args v W') :
    ReturnsInHanded a C os f .any (fun w args => (s.pre enc C.prog fn conds apart w args ∧ X w args) ∧ sizedMet enc C.prog fn (OpenSpec.ofChange s) apart w args) (s.post enc C.prog fn apart fresh handsOn again) :=
  returnsInHanded_of_calls own started noInit witness fun w tape i _ hsh _ hok hpre _ => by
    obtain ⟨-, -, -, g, hg, -, -, -, -, hval⟩ := hok
    obtain rfl : g = fn := Option.some.inj (hg.symm.trans hfn)
    obtain ⟨⟨⟨ds, gs, before, hw, -⟩, hx⟩, -⟩ := hpre
    refine (contract (w.forCall tape i) i.args ds gs before _ hval (DataW.Whole.of_heap (w' := w.forCall tape i) (by rfl) hw) (hX _ _ _ (by rfl) hx) hsh).mono ?_
    rintro _ _ ⟨_, rfl, hp⟩
    exact ChangeSpec.post_blind hp
end Go.Proofs.Tryz

namespace Go.Proofs.Tryz
open Go Go.Am Go.RowKit Go.Dr Go.Shelf
set_option maxRecDepth 100000

/-- The iterator hands over the elements one by one; between two rounds it writes the box B. -/
def SeqBoxed {α : Type} (n : Nat) (g : Nat) (lb : Array Value) (encs : α → Array Value) (B : Nat) (Kp : World → World → Prop) (S Sp : List α → Prop) (N : Nat) (w : World) : Prop :=
  ∀ (l : Nat) (J Jx : List α → World → Prop) (W : World), Below w.heap.size w W → AbidesFrom W.heap.size J → (∀ s X v, J s X → J s (X.setCell ⟨B, 0, none⟩ v)) →
    (∀ pre x W1, J pre W1 → pre.length < N → YieldAt Fence.wide (n - 1) prog l (encs x) W1 fun e W' =>
      (e = .returned (.bool true) ∧ J (pre ++ [x]) W' ∧ Kp W1 W') ∨ (e = .returned (.bool false) ∧ Jx (pre ++ [x]) W')) →
    J [] W →
    CallsIn Fence.wide n prog g (#[.func (.yield l) #[] #[]] ++ lb) W fun e W' => (∃ v, e = .returned v) ∧ ((∃ xs, S xs ∧ J xs W') ∨ (∃ pre, Sp pre ∧ Jx pre W'))

/-- A loop's two blocks: its deferred calls, its record. -/
def LoopsAt (D : Nat) (r : Loop) (W : World) : Prop := W.heap[D]? = some (.deferred (some [])) ∧ W.heap[D + 1]? = some (.loop r)
theorem LoopsAt.others {D : Nat} {r : Loop} {W W' : World} (h : LoopsAt D r W) (k : KeepsOthers W W') : LoopsAt D r W' := ⟨k.same _ _ h.1 rfl, k.same _ _ h.2 rfl⟩
theorem LoopsAt.lt {D : Nat} {r : Loop} {W : World} (h : LoopsAt D r W) : D + 1 < W.heap.size := (Array.getElem?_eq_some_iff.1 h.2).1
theorem LoopsAt.put {D : Nat} {r : Loop} {W : World} (h : LoopsAt D r W) (r' : Loop) : LoopsAt D r' (W.putObj (D + 1) (.loop r')) := ⟨(World.putObj_heap_other (by omega)).trans h.1, World.putObj_heap_same h.lt⟩
theorem LoopsAt.walk {D : Nat} {r : Loop} {W W' : World} {row : Option Nat} (h : LoopsAt D r W) (hg : W.grownBy W' row) (hr : ∀ q, row = some q → ∃ o : Obj, W.heap[q]? = some o ∧ o.isWalk = true) : LoopsAt D r W' :=
  ⟨(grownBy_keeps hg hr h.1 rfl).trans h.1, (grownBy_keeps hg hr h.2 rfl).trans h.2⟩

section
variable {α : Type} {n : Nat} {g : Operand} {ps : Array Tmp} {assign body : Code} {Q : Exit → Act → World → Prop} {a : Act} {w : World}
theorem range_boxed (h1 : 1 ≤ n) {gf : Nat} {lb : Array Value} (hg : a.eval g = .func (.func gf) #[] lb) (eg : ∀ args w, (callFunc gf args).run prog w = .ok (.enter gf args) w)
    {encs : α → Array Value} {B : Nat} {Kp : World → World → Prop} {S Sp : List α → Prop} {N : Nat} (hseq : SeqBoxed (n - 1) gf lb encs B Kp S Sp N w)
    (hKt : ∀ {X Y Z : World}, Kp X Y → Kp Y Z → Kp X Z) (hKb : ∀ (W : World) (l : Nat) (o o' : Obj), w.heap.size ≤ l → W.heap[l]? = some o → o.isCells = false → o.isWalk = false → Kp W (W.putObj l o')) (hps : ∀ x, (encs x).size = ps.size)
    (I : List α → World → Prop) (Ix : Code → List α → World → Prop) (hI : OwnFrom w.heap.size I) (hIx : ∀ c, OwnFrom w.heap.size (Ix c)) (hIB : ∀ s X v, I s X → I s (X.setCell ⟨B, 0, none⟩ v)) (h0 : I [] w) (a₁ : α → Act)
    (hassign : ∀ (l : Nat) (x : α) (W : World) (K : Act → World → Prop), K (a₁ x) W →
      assign.wpIn (Fence.wide.inRound l) (n - 1 - 1) prog (Exit.then K (fun _ _ _ => False)) { tmps := (ps.zip (encs x)).foldl (fun t (p, v) => t.setIfInBounds p v) a.tmps, defers := [] } W)
    (hbody : ∀ (l : Nat) (pre : List α) (x : α) (W : World), I pre W → pre.length < N → body.wpIn (Fence.wide.inRound l) (n - 1 - 1) prog (ownPostK Kp I Ix (pre ++ [x]) W) (a₁ x) W)
    (hdone : ∀ (D : Nat) (xs : List α) (W : World), w.heap.size ≤ D → S xs → I xs W → W.heap[D]? = some (.deferred (some [])) → Q .normal { a with defers := { target := .collected D, args := #[] } :: a.defers } W)
    (hstop : ∀ (D : Nat) (c : Code) (pre : List α) (W : World), w.heap.size ≤ D → Sp pre → Ix c pre W → W.heap[D]? = some (.deferred (some [])) → c.wpIn Fence.wide n prog Q { a with defers := { target := .collected D, args := #[] } :: a.defers } W) :
    (Code.rangeFunc g ps assign body).wpIn Fence.wide n prog Q a w := by
  refine wpIn_rangeFunc fun fn hfn => ?_
  obtain ⟨r, hr⟩ : ∃ r : LoopState → Option Code → Loop, r = fun st pe => { state := st, pending := pe, fn, tmps := a.tmps, params := ps, assign, body, defers := w.heap.size } := ⟨_, rfl⟩
  have hrp : ∀ st pe, (r st pe).params = ps := fun st pe => by rw [hr]
  have hrs : ∀ st pe, (r st pe).state = st := fun st pe => by rw [hr]
  have hrd : ∀ st pe, (r st pe).pending = pe := fun st pe => by rw [hr]
  have hru : ∀ st st' pe pe', { r st pe with state := st', pending := pe' } = r st' pe' := fun st st' pe pe' => by rw [hr]
  have hru1 : ∀ st st' pe, { r st pe with state := st' } = r st' pe := fun st st' pe => by rw [hr]
  obtain ⟨W1, hW1⟩ : ∃ W1, (w.alloc (.deferred (some []))).alloc (.loop (r .ready none)) = W1 := ⟨_, rfl⟩
  have hA : Below w.heap.size w W1 := by
    rw [← hW1]
    exact ((Below.refl _ w).alloc (Nat.le_refl _) _).alloc (by simp) _
  have hL : LoopsAt w.heap.size (r .ready none) W1 := by
    rw [← hW1]
    refine ⟨(Below.heap_alloc _ _ _ (by simp)).trans (World.alloc_heap_new w _), ?_⟩
    have := World.alloc_heap_new (w.alloc (.deferred (some []))) (.loop (r .ready none))
    rwa [World.size_alloc] at this
  have hI1 : I [] W1 := by rw [← hW1]; exact hI.alloc _ (hI.alloc _ h0)
  have hs1 : w.heap.size ≤ W1.heap.size := hA.size
  refine ⟨w.heap.size + 1, [{ target := .collected w.heap.size, args := #[] }], W1, { target := .fn (.func gf) lb, args := #[.func (.yield (w.heap.size + 1)) #[] #[]] }, W1, gf,
    #[.func (.yield (w.heap.size + 1)) #[] #[]] ++ lb, W1, ?_, ?_, fun _ _ => trivial, ?_, fun _ => h1, ?_⟩
  · rw [← hW1, hr]; exact run_enterLoop_outer _ _ _ _ _
  · simp only [resolve, hg]; simp [go_sem]
  · simp [invoke, go_sem, eg]
  -- what holds between two rounds, and behind a round that has stopped
  have up : ∀ {X : World} {row : Option Nat}, (∀ q, row = some q → W1.heap.size ≤ q ∧ ∃ o : Obj, X.heap[q]? = some o ∧ o.isWalk = true) → (∀ q, row = some q → w.heap.size ≤ q ∧ ∃ o : Obj, X.heap[q]? = some o ∧ o.isCells = false) := fun h q e => by
    obtain ⟨h2, o, h3, h4⟩ := h q e
    exact ⟨Nat.le_trans hs1 h2, o, h3, Obj.not_cells_of_walk h4⟩
  refine (hseq (w.heap.size + 1) (fun s W => I s W ∧ LoopsAt w.heap.size (r .ready none) W) (fun s W => ∃ c, Ix c s W ∧ LoopsAt w.heap.size (r .done (some c)) W) W1 hA
    (fun s X Y row h hg hq => ⟨hI s X Y row h.1 hg (up hq), h.2.walk hg fun q e => (hq q e).2⟩)
    (fun s X v h => ⟨hIB s X v h.1, h.2.others (KeepsOthers.setCell _ _ _)⟩) ?_ ⟨hI1, hL⟩).mono ?_
  · rintro pre x W ⟨hi, hl⟩ hlen
    have hy := run_yield (P := prog) (args := encs x) hl.2 (by rw [hrp]; exact hps x)
    rw [hr] at hy
    refine ⟨fn, _, assign, body, hy, roundIn_of_wpIn hfn (hassign _ x W _ ⟨_, run_beginRound hl.2 (hrs _ _), ?_⟩)⟩
    rw [hru1]
    have hl2 := hl.put (r .busy none)
    have hk2 := hKb W (w.heap.size + 1) _ (.loop (r .busy none)) (Nat.le_succ _) hl.2 rfl rfl
    refine wpIn_mono (hbody _ pre x _ (hI.putObj _ hi (Nat.le_succ _) hl.2 rfl) hlen) ?_
    -- the round's end
    have fin : ∀ (jump : Option Code) (X : World), KeepsOthers (W.putObj (w.heap.size + 1) (.loop (r .busy none))) X →
        (Instr.endRound (w.heap.size + 1) jump).run prog X = .ok (.bool jump.isNone) (X.putObj (w.heap.size + 1) (.loop (r (if jump.isNone then .ready else .done) jump))) ∧
        LoopsAt w.heap.size (r .busy none) X ∧ LoopsAt w.heap.size (r (if jump.isNone then .ready else .done) jump) (X.putObj (w.heap.size + 1) (.loop (r (if jump.isNone then .ready else .done) jump))) := fun jump X hX => by
      have hl3 := hl2.others hX
      have := run_endRound (P := prog) jump hl3.2
      rw [hru] at this
      exact ⟨this, hl3, hl3.put _⟩
    have leave : ∀ (c : Code) (X : World), KeepsOthers (W.putObj (w.heap.size + 1) (.loop (r .busy none))) X → Ix c (pre ++ [x]) X →
        ∃ v Y, (Instr.endRound (w.heap.size + 1) (some c)).run prog X = .ok v Y ∧ ((Ending.returned v = .returned (.bool true) ∧ (I (pre ++ [x]) Y ∧ LoopsAt w.heap.size (r .ready none) Y) ∧ Kp W Y) ∨ (Ending.returned v = .returned (.bool false) ∧ ∃ c', Ix c' (pre ++ [x]) Y ∧ LoopsAt w.heap.size (r .done (some c')) Y)) := fun c X hX hx => by
      obtain ⟨e1, e2, e3⟩ := fin (some c) X hX
      exact ⟨_, _, e1, .inr ⟨rfl, c, (hIx c).putObj _ hx (Nat.le_succ _) e2.2 rfl, e3⟩⟩
    rintro e a3 X hp
    cases e with
    | normal =>
      obtain ⟨hX, hK, hx⟩ := hp
      obtain ⟨e1, e2, e3⟩ := fin none X hX
      exact ⟨_, _, e1, .inl ⟨rfl, ⟨hI.putObj _ hx (Nat.le_succ _) e2.2 rfl, e3⟩, hKt (hKt hk2 hK) (hKb X _ _ _ (Nat.le_succ _) e2.2 rfl rfl)⟩⟩
    | ret => exact leave _ X hp.1 hp.2
    | exit id => exact leave _ X hp.1 hp.2
    | goto t => exact leave _ X hp.1 hp.2
    | panic ch => exact hp.elim
    | outgrown => exact hp.elim
  · rintro e X ⟨⟨v, rfl⟩, ⟨xs, hS, hx, hl⟩ | ⟨pre, hS, c, hx, hl⟩⟩
    · refine ⟨none, _, ?_, hdone _ xs _ (Nat.le_refl _) hS (hI.putObj _ hx (Nat.le_succ _) hl.2 rfl) (hl.put (r .exhausted none)).1⟩
      have := run_endLoop (P := prog) hl.2 (by rw [hrs]; simp)
      rw [hru1, hrd] at this
      exact this
    · refine ⟨some c, _, ?_, hstop _ c pre _ (Nat.le_refl _) hS ((hIx c).putObj _ hx (Nat.le_succ _) hl.2 rfl) (hl.put (r .exhausted (some c))).1⟩
      have := run_endLoop (P := prog) hl.2 (by rw [hrs]; simp)
      rw [hru1, hrd] at this
      exact this
end
end Go.Proofs.Tryz

namespace Go.Proofs.Tryz
open Go Go.Am Go.RowKit Go.Dr Go.Shelf
set_option maxRecDepth 100000
attribute [local go_sem] Oper.semAt_some

theorem boxOne {w : World} {b : Nat} {c0 : Value} {e : TypeId} (h : At w b #[c0] e) : w.cell? ⟨b, 0, none⟩ = some c0 ∧ w.frozen? ⟨b, 0, none⟩ = false := by
  unfold At at h
  constructor
  · unfold World.cell?; rw [h]; rfl
  · unfold World.frozen?; rw [h]; rfl
theorem indexByte_w (l : List UInt8) (w : World) : Calls prog 147 #[.string (bA l), .int .u8 10] w fun e w' => e = .returned (.int .i64 (Lib.indexByte l 10)) ∧ w' = w := by
  go_enter func147, ntmps147
  go_wp2
  rw [run_callFunc_extern h189 n189 b189 x189 e189, Lib.run_indexByteString]
  simp only [Result.andThen]
  rw [Oper.upon_value]
  go_wp2
  go_ret
  exact ⟨rfl, rfl⟩
theorem cut_w (l : List UInt8) (hl : l.length ≤ 1000000) (w : World) : Calls prog 113 #[.string (bA l), .string { data := #[10] }] w fun e w' => e = .returned (.tuple #[.string (bA (Lib.trimSuffix l [10])), .bool (Lib.hasSuffix l [10])]) ∧ w' = w :=
  Any.strings_CutSuffix cutSufSL (bA l) ⟨#[10]⟩ w (by rw [bA_size]; omega)
theorem lines_w (l : List UInt8) (w : World) : Calls prog 112 #[.string (bA l)] w fun e w' => e = .returned (.func (.func 146) #[] #[.pointer (some ⟨w.heap.size, 0, none⟩)]) ∧ w' = w.alloc (.cells #[.string (bA l)] 9) := by
  go_enter func112, ntmps112
  go_wp2
  go_ret
  exact ⟨rfl, rfl⟩

/-- The lines of a text, with their line feeds, out of its parts. -/
def lns : List (List UInt8) → List (List UInt8)
  | [] => []
  | [x] => if x = [] then [] else [x]
  | x :: y :: r => (x ++ [10]) :: lns (y :: r)
theorem lns_nil : lns (spl 10 []) = [] := rfl
theorem lns_last {m : List UInt8} (h : (10 : UInt8) ∉ m) (h0 : m ≠ []) : lns (spl 10 m) = [m] := by
  rw [spl_none h, lns, if_neg h0]
theorem lns_cons {x m : List UInt8} (h : (10 : UInt8) ∉ x) : lns (spl 10 (x ++ 10 :: m)) = (x ++ [10]) :: lns (spl 10 m) := by
  rw [spl_break h]
  obtain ⟨a, r, e, -⟩ := spl_join 10 m
  rw [e, lns]
theorem indexByte_at {c : UInt8} : ∀ {x m : List UInt8}, c ∉ x → Lib.indexByte (x ++ c :: m) c = (x.length : Nat)
  | [], m, _ => by simp [Lib.indexByte]
  | b :: x, m, h => by
    simp only [List.mem_cons, not_or] at h
    rw [List.cons_append, Lib.indexByte, indexByte_at h.2, if_neg (by simpa using fun e => h.1 e.symm), if_neg (by simp <;> omega)]
    simp
theorem indexByte_no {c : UInt8} : ∀ {m : List UInt8}, c ∉ m → Lib.indexByte m c = -1
  | [], _ => rfl
  | b :: m, h => by
    simp only [List.mem_cons, not_or] at h
    rw [Lib.indexByte, indexByte_no h.2, if_neg (by simpa using fun e => h.1 e.symm)]
    rfl
theorem break_at {c : UInt8} : ∀ {m : List UInt8}, c ∈ m → ∃ x r, m = x ++ c :: r ∧ c ∉ x
  | b :: m, h => by
    by_cases e : c = b
    · subst e; exact ⟨[], m, rfl, by simp⟩
    · obtain ⟨x, r, h1, h2⟩ := break_at (m := m) (by rcases List.mem_cons.1 h with q | q; exact absurd q e; exact q)
      exact ⟨b :: x, r, by rw [h1]; rfl, by simp [e, h2]⟩
/-- A line as the round is handed it. -/
def encL (x : List UInt8) : Array Value := #[.string (bA (x.take 4096))]
/-- The box stays. -/
def KpB (B : Nat) (X Y : World) : Prop := Y.heap[B]? = X.heap[B]?
theorem KpB.t {B : Nat} {X Y Z : World} (h : KpB B X Y) (k : KpB B Y Z) : KpB B X Z := k.trans h
def boxLen (B : Nat) (w : World) : Nat := match w.cell? ⟨B, 0, none⟩ with
  | some (.string s) => s.size
  | _ => 0
theorem boxLen_at {B : Nat} {w : World} {l : List UInt8} (h : At w B #[.string (bA l)] 9) : boxLen B w = l.length := by
  obtain ⟨h1, -⟩ := boxOne h
  unfold boxLen
  rw [h1]
  exact bA_size l

set_option maxHeartbeats 3200000 in
theorem lines_stops (n : Nat) (hn : 2 ≤ n) (l : List UInt8) (hl : l.length ≤ 4096) (B : Nat) (w : World) (hs : At w B #[.string (bA l)] 9) :
    SeqBoxed n 146 #[.pointer (some ⟨B, 0, none⟩)] encL B (KpB B) (fun xs => xs = lns (spl 10 l)) (fun pre => pre <+: lns (spl 10 l)) (lns (spl 10 l)).length w := fun l' J Jx W hW hJA hJB hY h0 => by
  have hsW : At W B #[.string (bA l)] 9 := hs.below hW hs.lt
  refine callsIn_of_wp func146 rfl trivial ?_ rfl
  simp only [ntmps146, List.size_toArray, List.length_cons, List.length_nil, Nat.reduceAdd, Nat.reduceSub, Array.replicate_succ, Array.replicate_zero, List.push_toArray, List.append_toArray, List.nil_append, List.cons_append]
  have h1 : 1 ≤ n := by omega
  obtain ⟨LL, hLL⟩ : ∃ LL, lns (spl 10 l) = LL := ⟨_, rfl⟩
  rw [hLL] at hY ⊢
  clear hW hs
  gi_wp2_with fail
  gi_loopw [] (fun wr => ∃ pre m, pre ++ lns (spl 10 m) = LL ∧ m.length ≤ 4096 ∧ At wr B #[.string (bA m)] 9 ∧ J pre wr) (fun wr => boxLen B wr)
  case atStart => exact ⟨[], l, hLL, hl, hsW, h0⟩
  case round =>
    clear hsW h0
    obtain ⟨pre, m, hpm, hml, hat, hJ⟩ := hrel
    obtain ⟨c0, g0⟩ := boxOne hat
    have hsz : (bA m).size = m.length := bA_size m
    by_cases hm0 : m = []
    · subst hm0
      have HJ := Lib.hid hJ
      have HP := Lib.hid hpm
      have eb : bA [] = ({ data := #[] } : ByteArray) := rfl
      rw [eb] at c0
      clear hJ hY hJB hpm hsz eb hat hml
      gi_wp2
      go_end0
      refine ⟨⟨_, rfl⟩, .inl ⟨_, ?_, HJ.out⟩⟩
      have := HP.out
      rw [lns_nil, List.append_nil] at this
      exact this
    have hpos : 0 < m.length := List.length_pos_iff.2 hm0
    have hp' : (0 : Int) < (m.length : Int) := by omega
    have cI := indexByte_w m wr
    by_cases hm1 : (10 : UInt8) ∈ m
    · obtain ⟨x, r, hxr, hx⟩ := break_at hm1
      rw [hxr, indexByte_at hx, ← hxr] at cI
      rw [hxr, lns_cons hx] at hpm
      have hlen : m.length = x.length + 1 + r.length := by rw [hxr]; simp; omega
      obtain ⟨k, hk⟩ : ∃ k, x.length = k := ⟨_, rfl⟩
      rw [hk] at cI hlen
      have hJd : J pre (wr.setCell ⟨B, 0, none⟩ (.string (bA r))).drew := hJA _ _ _ none (hJB _ _ _ hJ) ⟨rfl, rfl, rfl, Nat.le_refl _, fun _ _ _ => rfl⟩ (fun r e => by cases e)
      have hy0 := hY pre (x ++ [10]) (wr.setCell ⟨B, 0, none⟩ (.string (bA r))).drew hJd (by rw [← hpm]; simp)
      have e1 : (bA m).extract 0 (k + 1) = bA (x ++ [10]) := by
        rw [bA_sub, hxr, ← hk]
        congr 1
        simp [List.take_append, List.take_of_length_le]
      have e2 : (bA m).extract (k + 1) (k + 1 + r.length) = bA r := by
        rw [bA_sub, hxr, ← hk]
        congr 1
        have q : x.length + 1 + r.length - (x.length + 1) = r.length := by omega
        rw [q]
        simp
      have een : encL (x ++ [10]) = #[.string (bA (x ++ [10]))] := by
        unfold encL
        rw [List.take_of_length_le (by rw [List.length_append]; simp; omega)]
      rw [een] at hy0
      obtain ⟨fn, tmps, assign, body, hy, hR⟩ := hy0
      have hat2 := (hat.set 0 (.string (bA r))).drew
      simp only [List.setIfInBounds_toArray, List.set_cons_zero] at hat2
      have HE1 := Lib.hid e1
      have HE2 := Lib.hid e2
      have HP : Hid (pre ++ [x ++ [10]] ++ lns (spl 10 r) = LL) := Lib.hid (by rw [← hpm]; simp)
      have hrl : r.length < m.length := by omega
      have hrl2 : r.length ≤ 4096 := by omega
      have hk2 : (k : Int) + 1 ≤ (m.length : Int) := by omega
      have HM : Hid (boxLen B wr = m.length) := Lib.hid (boxLen_at hat)
      have HL := Lib.hid hrl
      clear hJ hY hJB hJA hJd hpm een e1 e2 hm0 hm1 hxr hx hk hat hrl
      gi_wp2_with (refine ⟨trivial, ?_⟩; gi_at_call 147; refine (callsIn_wide.2 cI).mono ?_; rintro e w' ⟨rfl, rfl⟩)
      clear cI
      refine wpIn_wide.2 ?_
      go_region
      rw [HE1.out, HE2.out]
      gi_wp2
      refine hR.mono ?_
      rintro e W3 (⟨rfl, hJ3, hk3⟩ | ⟨rfl, hJx3⟩)
      · have hat3 : At W3 B #[.string (bA r)] 9 := Eq.trans hk3 hat2
        clear hR hy hk3 hat2
        gi_wp2
        go_roundw
        case rel => exact ⟨_, r, HP.out, hrl2, hat3, hJ3⟩
        case measure => rw [boxLen_at hat3, HM.out]; exact HL.out
      · gi_wp2
        refine bodyPost_ret (results_none rfl _ _ _) rfl ?_
        exact ⟨⟨_, rfl⟩, .inr ⟨_, ⟨_, HP.out⟩, hJx3⟩⟩
    · rw [indexByte_no hm1] at cI
      rw [lns_last hm1 hm0] at hpm
      have eb : bA [] = ({ data := #[] } : ByteArray) := rfl
      have hy0 := hY pre m (wr.setCell ⟨B, 0, none⟩ (.string ({ data := #[] } : ByteArray))) (hJB _ _ _ hJ) (by rw [← hpm]; simp)
      have een : encL m = #[.string (bA m)] := by
        unfold encL
        rw [List.take_of_length_le hml]
      rw [een] at hy0
      obtain ⟨fn, tmps, assign, body, hy, hR⟩ := hy0
      have hat2 := hat.set 0 (.string ({ data := #[] } : ByteArray))
      simp only [List.setIfInBounds_toArray, List.set_cons_zero] at hat2
      rw [← eb] at hat2
      have HP : Hid (pre ++ [m] ++ lns (spl 10 []) = LL) := Lib.hid (by rw [← hpm, lns_nil, List.append_nil])
      have HM : Hid (boxLen B wr = m.length) := Lib.hid (boxLen_at hat)
      have HL := Lib.hid hpos
      clear hJ hY hJB hJA hpm een hm0 hm1 hat hpos eb
      gi_wp2_with (refine ⟨trivial, ?_⟩; gi_at_call 147; refine (callsIn_wide.2 cI).mono ?_; rintro e w' ⟨rfl, rfl⟩)
      refine hR.mono ?_
      rintro e W3 (⟨rfl, hJ3, hk3⟩ | ⟨rfl, hJx3⟩)
      · have hat3 : At W3 B #[.string (bA [])] 9 := Eq.trans hk3 hat2
        clear hR hy hk3 hat2 cI
        gi_wp2
        go_roundw
        case rel => exact ⟨_, [], HP.out, Nat.zero_le _, hat3, hJ3⟩
        case measure => rw [boxLen_at hat3, HM.out]; exact HL.out
      · clear cI
        gi_wp2
        refine bodyPost_ret (results_none rfl _ _ _) rfl ?_
        exact ⟨⟨_, rfl⟩, .inr ⟨_, ⟨_, HP.out⟩, hJx3⟩⟩
end Go.Proofs.Tryz

namespace Go.Proofs.Tryz
open Go Go.Am Go.RowKit Go.Dr Go.Shelf
set_option maxRecDepth 100000

theorem words_w (l : List UInt8) (w : World) : Calls prog 85 #[.string (bA l)] w fun e w' => e = .returned (.func (.func 122) #[] #[.pointer (some ⟨w.heap.size, 0, none⟩)]) ∧ w' = w.alloc (.cells #[.string (bA l)] 9) := by
  go_enter func85, ntmps85
  go_wp2
  go_ret
  exact ⟨rfl, rfl⟩

/-! ### what stays -/
theorem Kp9.below {W W' : World} (h : Below W.heap.size W W') : Kp9 W W' := fun k _ _ hk => h.block k (Array.getElem?_eq_some_iff.1 hk).1
theorem Kp9.set {W : World} {b : Nat} {cs : Array Value} {e : TypeId} (h : At W b cs e) (he : e ≠ 9) (o : Nat) (v : Value) : Kp9 W (W.setCell ⟨b, o, none⟩ v) := fun k cs' fr hk => by
  refine Below.heap_setCell _ _ _ _ fun q => ?_
  obtain rfl : k = b := q
  unfold At at h
  rw [h] at hk
  simp only [Option.some.injEq, Obj.cells.injEq] at hk
  exact he hk.2.1
theorem Kp9.grown {W W' : World} {base k : Nat} {v : Value} {xs : List Value} (hg : W.grownBy W' v.ownBlock) (ho : W.ownsRow base 27 5 v k xs) : Kp9 W W' := fun i cs fr hi => by
  refine hg.block i (Array.getElem?_eq_some_iff.1 hi).1 fun e => ?_
  obtain ⟨cs', fz, hc⟩ := Lib.ownsRow_kind ho _ e.symm
  rw [hc] at hi
  simp at hi
theorem keeps_below {W W' : World} (h : Below W.heap.size W W') : KeepsOthers W W' := ⟨h.size, fun k _ hk _ => (h.block k (Array.getElem?_eq_some_iff.1 hk).1).trans hk⟩
theorem keeps_grown {W W' : World} {base k : Nat} {v : Value} {xs : List Value} (hg : W.grownBy W' v.ownBlock) (ho : W.ownsRow base 27 5 v k xs) : KeepsOthers W W' :=
  KeepsOthers.of_grownBy hg fun _ _ hj hk => by
    obtain ⟨cs', fz, hc⟩ := Lib.ownsRow_kind ho _ hj
    rw [hc] at hk
    cases hk
    rfl

/-- What speaks of cells abides a turn of what is none. -/
theorem At.abide {A B : World} {row : Option Nat} {b : Nat} {cs : Array Value} {e : TypeId} (h : At A b cs e) (hg : A.grownBy B row) (hr : ∀ r, row = some r → ∃ o : Obj, A.heap[r]? = some o ∧ o.isCells = false) : At B b cs e := by
  refine (hg.block b h.lt fun q => ?_).trans h
  obtain ⟨o, ho, hc⟩ := hr b q.symm
  unfold At at h
  rw [h] at ho
  cases ho
  cases hc
theorem owns_abide {A B : World} {row : Option Nat} {base n k : Nat} {e : TypeId} {v : Value} {xs : List Value} (h : A.ownsRow base e k v n xs) (hg : A.grownBy B row) (hr : ∀ r, row = some r → ∃ o : Obj, A.heap[r]? = some o ∧ o.isCells = false) : B.ownsRow base e k v n xs := by
  refine h.kept hg ?_
  cases hv : v.ownBlock with
  | none => exact .inl rfl
  | some r =>
    right
    intro q
    obtain ⟨cs', fz, hc⟩ := Lib.ownsRow_kind h _ hv
    obtain ⟨o, ho, hcc⟩ := hr r q.symm
    rw [hc] at ho
    cases ho
    cases hcc
theorem M5Own.abide {A B : World} {row : Option Nat} {base : Nat} {c : M5} {m : MvD} (h : M5Own A base c m) (hg : A.grownBy B row) (hr : ∀ r, row = some r → ∃ o : Obj, A.heap[r]? = some o ∧ o.isCells = false) : M5Own B base c m :=
  ⟨h.1, h.2.1, h.2.2.1, h.2.2.2.1, owns_abide h.2.2.2.2.1 hg hr, h.2.2.2.2.2⟩
theorem LsR.abide {A B : World} {row : Option Nat} {base : Nat} {L : List MvD} {v : Value} (h : LsR A base L v) (hg : A.grownBy B row) (hr : ∀ r, row = some r → ∃ o : Obj, A.heap[r]? = some o ∧ o.isCells = false) : LsR B base L v :=
  let ⟨lk, h1, h2⟩ := h
  ⟨lk, owns_abide h1 hg hr, h2.imp fun _ _ o => o.abide hg hr⟩

/-- The words that have come. -/
def wds (pre : List (Nat × List UInt8)) : List (List UInt8) := pre.map fun x => x.2.take 4096
theorem wds_snoc (pre : List (Nat × List UInt8)) (x : Nat × List UInt8) : wds (pre ++ [x]) = wds pre ++ [x.2.take 4096] := by simp [wds]
theorem wds_len (pre : List (Nat × List UInt8)) : (wds pre).length = pre.length := by simp [wds]
/-- What Parse's variables hold between two words. -/
def ParI (w : World) (bp bn bw base : Nat) (pre : List (Nat × List UInt8)) (W : World) : Prop :=
  (∃ P v, accW 0 p0St (wds pre) = some P ∧ At W bp #[.string (bA P.a), .string (bA P.e), .bool P.lx, v] 24 ∧ LsR W base P.L v ∧ P.L.length ≤ pre.length ∧
    At W bn #[.int .i64 ((pre.length : Nat) : Int)] 3 ∧ At W bw #[.int .i64 (-1)] 3 ∧ At W w.heap.size #[.string ⟨#[]⟩, .string ⟨#[]⟩, .bool false, .slice none 0 0] 24 ∧ base ≤ W.heap.size) ∧ Below w.heap.size w W
/-- .. and where a word is wrong. -/
def ParX (w : World) (bn bw : Nat) (c : Code) (pre : List (Nat × List UInt8)) (W : World) : Prop :=
  (c = .exit 0 ∧ ∃ pre0 x P, pre = pre0 ++ [x] ∧ accW 0 p0St (wds pre0) = some P ∧ stepW pre0.length (x.2.take 4096) P = none ∧
    At W bn #[.int .i64 ((pre0.length : Nat) : Int)] 3 ∧ At W bw #[.int .i64 ((x.1 : Nat) : Int)] 3 ∧ At W w.heap.size #[.string ⟨#[]⟩, .string ⟨#[]⟩, .bool false, .slice none 0 0] 24) ∧ Below w.heap.size w W
theorem parI_own (w : World) (bp bn bw base B : Nat) (hB : w.heap.size ≤ B) : OwnFrom B (ParI w bp bn bw base) :=
  OwnFrom.and (Own.from (fun s A B row hs hg hr => by
    obtain ⟨P, v, h1, h2, h3, h4, h5, h6, h7, h8⟩ := hs
    exact ⟨P, v, h1, h2.abide hg hr, h3.abide hg hr, h4, h5.abide hg hr, h6.abide hg hr, h7.abide hg hr, Nat.le_trans h8 hg.size⟩) _) (ownFrom_below (Nat.le_refl _) hB)
theorem parX_own (w : World) (bn bw B : Nat) (hB : w.heap.size ≤ B) (c : Code) : OwnFrom B (ParX w bn bw c) :=
  OwnFrom.and (Own.from (fun s A B row hs hg hr => by
    obtain ⟨h0, pre0, x, P, h1, h2, h3, h4, h5, h6⟩ := hs
    exact ⟨h0, pre0, x, P, h1, h2, h3, h4.abide hg hr, h5.abide hg hr, h6.abide hg hr⟩) _) (ownFrom_below (Nat.le_refl _) hB)
theorem withAt_snd : ∀ (k : Nat) (ws : List (List UInt8)), (withAt k ws).map Prod.snd = ws
  | _, [] => rfl
  | k, w :: r => by rw [withAt, List.map_cons, withAt_snd]
theorem wds_small {pre : List (Nat × List UInt8)} (h : ∀ x ∈ pre, x.2.length ≤ 4096) : wds pre = pre.map Prod.snd := by
  unfold wds
  apply List.map_congr_left
  intro x hx
  exact List.take_of_length_le (h x hx)
theorem spl_small {l : List UInt8} (hl : l.length ≤ 4096) : ∀ x ∈ spl 32 l, x.length ≤ 4096 := fun x hx => by
  obtain ⟨r, z, hrz⟩ := List.append_of_mem hx
  have := atW_spl l
  rw [hrz, atW_append, atW] at this
  omega
/-- The words up to a wrong one. -/
theorem withAt_parts {l : List UInt8} (hl : l.length ≤ 4096) {pre0 t : List (Nat × List UInt8)} {x : Nat × List UInt8} (h : pre0 ++ [x] ++ t = withAt 0 (spl 32 l)) :
    ∃ r z, spl 32 l = r ++ x.2 :: z ∧ wds pre0 = r ∧ x.1 = atW r ∧ pre0.length = r.length ∧ x.2.take 4096 = x.2 := by
  have hs := withAt_snd 0 (spl 32 l)
  rw [← h, List.map_append, List.map_append] at hs
  have hm : ∀ y ∈ pre0 ++ [x], y.2.length ≤ 4096 := fun y hy => spl_small hl y.2 (by
    rw [← hs, ← List.map_append]
    exact List.mem_append_left _ (List.mem_map.2 ⟨y, hy, rfl⟩))
  have hx := hm x (by simp)
  refine ⟨pre0.map Prod.snd, t.map Prod.snd, by rw [← hs]; simp, wds_small fun y hy => hm y (by simp [hy]), ?_, by simp, List.take_of_length_le hx⟩
  have hg := withAt_get 0 (spl 32 l) pre0.length x.2 (by rw [← hs]; simp)
  rw [← h] at hg
  have e : (pre0 ++ [x] ++ t)[pre0.length]? = some x := by simp
  rw [e, Nat.zero_add] at hg
  have := congrArg (Option.map Prod.fst) hg
  simp only [Option.map_some, Option.some.injEq] at this
  rw [this, ← hs]
  congr 1
  simp
theorem wds_all {l : List UInt8} (hl : l.length ≤ 4096) : wds (withAt 0 (spl 32 l)) = spl 32 l := by
  have hs := withAt_snd 0 (spl 32 l)
  rw [wds_small fun x hx => spl_small hl x.2 (by rw [← hs]; exact List.mem_map.2 ⟨x, hx, rfl⟩)]
  exact hs
theorem At.put {w : World} {b D : Nat} {cs : Array Value} {e : TypeId} (h : At w b cs e) (hD : b ≠ D) (o : Obj) : At (w.putObj D o) b cs e := (World.putObj_heap_other hD).trans h
/-- Four cells stored. -/
theorem At.set4 {w : World} {b : Nat} {e : TypeId} {c0 c1 c2 c3 : Value} (h : At w b #[c0, c1, c2, c3] e) (v0 v1 v2 v3 : Value) :
    At ((((w.setCell ⟨b, 0, none⟩ v0).setCell ⟨b, 1, none⟩ v1).setCell ⟨b, 2, none⟩ v2).setCell ⟨b, 3, none⟩ v3) b #[v0, v1, v2, v3] e := by
  have h1 := (((h.set 0 v0).set 1 v1).set 2 v2).set 3 v3
  simpa only [List.setIfInBounds_toArray, List.set_cons_zero, List.set_cons_succ] using h1
theorem below_set4 {w W : World} {B b : Nat} (h : Below B w W) (hb : B ≤ b) (v0 v1 v2 v3 : Value) :
    Below B w ((((W.setCell ⟨b, 0, none⟩ v0).setCell ⟨b, 1, none⟩ v1).setCell ⟨b, 2, none⟩ v2).setCell ⟨b, 3, none⟩ v3) :=
  (((h.setCell (p := ⟨b, 0, none⟩) hb _).setCell (p := ⟨b, 1, none⟩) hb _).setCell (p := ⟨b, 2, none⟩) hb _).setCell (p := ⟨b, 3, none⟩) hb _
/-- Five cells stored: a move's. -/
def put5 (w : World) (b : Nat) (v0 v1 v2 v3 v4 : Value) : World := ((((w.setCell ⟨b, 0, none⟩ v0).setCell ⟨b, 1, none⟩ v1).setCell ⟨b, 2, none⟩ v2).setCell ⟨b, 3, none⟩ v3).setCell ⟨b, 4, none⟩ v4
theorem At.put5 {w : World} {b : Nat} {e : TypeId} {c0 c1 c2 c3 c4 : Value} (h : At w b #[c0, c1, c2, c3, c4] e) (v0 v1 v2 v3 v4 : Value) : At (put5 w b v0 v1 v2 v3 v4) b #[v0, v1, v2, v3, v4] e := by
  have h1 := ((((h.set 0 v0).set 1 v1).set 2 v2).set 3 v3).set 4 v4
  simp only [List.setIfInBounds_toArray, List.set_cons_zero, List.set_cons_succ] at h1
  exact h1
theorem below_put5 {w W : World} {B b : Nat} (h : Below B w W) (hb : B ≤ b) (v0 v1 v2 v3 v4 : Value) : Below B w (put5 W b v0 v1 v2 v3 v4) :=
  ((((h.setCell (p := ⟨b, 0, none⟩) hb _).setCell (p := ⟨b, 1, none⟩) hb _).setCell (p := ⟨b, 2, none⟩) hb _).setCell (p := ⟨b, 3, none⟩) hb _).setCell (p := ⟨b, 4, none⟩) hb _
theorem set5_block {W : World} {b k : Nat} (h : k ≠ b) (v0 v1 v2 v3 v4 : Value) : (put5 W b v0 v1 v2 v3 v4).heap[k]? = W.heap[k]? :=
  (Below.heap_setCell _ _ _ _ h).trans ((Below.heap_setCell _ _ _ _ h).trans ((Below.heap_setCell _ _ _ _ h).trans ((Below.heap_setCell _ _ _ _ h).trans (Below.heap_setCell _ _ _ _ h))))
theorem size_set5 (W : World) (b : Nat) (v0 v1 v2 v3 v4 : Value) : (put5 W b v0 v1 v2 v3 v4).heap.size = W.heap.size := by unfold put5; simp
theorem keeps_set5 (W : World) (b : Nat) (v0 v1 v2 v3 v4 : Value) : KeepsOthers W (put5 W b v0 v1 v2 v3 v4) :=
  ((((KeepsOthers.setCell _ _ _).trans (KeepsOthers.setCell _ _ _)).trans (KeepsOthers.setCell _ _ _)).trans (KeepsOthers.setCell _ _ _)).trans (KeepsOthers.setCell _ _ _)
theorem kp9_set5 {W : World} {b : Nat} {cs : Array Value} {e : TypeId} (h : At W b cs e) (he : e ≠ 9) (v0 v1 v2 v3 v4 : Value) : Kp9 W (put5 W b v0 v1 v2 v3 v4) :=
  (Kp9.set h he 0 v0).t ((Kp9.set (h.set 0 v0) he 1 v1).t ((Kp9.set ((h.set 0 v0).set 1 v1) he 2 v2).t ((Kp9.set (((h.set 0 v0).set 1 v1).set 2 v2) he 3 v3).t (Kp9.set ((((h.set 0 v0).set 1 v1).set 2 v2).set 3 v3) he 4 v4))))
theorem LsR.set5M {w : World} {base : Nat} {l : List MvD} {v : Value} (h : LsR w base l v) {b : Nat} {cs : Array Value} (ha : At w b cs 27) (hv : v.ownBlock ≠ some b) (v0 v1 v2 v3 v4 : Value) : LsR (put5 w b v0 v1 v2 v3 v4) base l v :=
  ((((h.setM ha hv 0 v0).setM (ha.set 0 v0) hv 1 v1).setM ((ha.set 0 v0).set 1 v1) hv 2 v2).setM (((ha.set 0 v0).set 1 v1).set 2 v2) hv 3 v3).setM ((((ha.set 0 v0).set 1 v1).set 2 v2).set 3 v3) hv 4 v4
theorem M5Own.set5M {w : World} {base b : Nat} {c : M5} {m : MvD} {cs : Array Value} (h : M5Own w base c m) (ha : At w b cs 27) (v0 v1 v2 v3 v4 : Value) : M5Own (put5 w b v0 v1 v2 v3 v4) base c m :=
  ((((h.atL ha (by decide) 0 v0).atL (ha.set 0 v0) (by decide) 1 v1).atL ((ha.set 0 v0).set 1 v1) (by decide) 2 v2).atL (((ha.set 0 v0).set 1 v1).set 2 v2) (by decide) 3 v3).atL ((((ha.set 0 v0).set 1 v1).set 2 v2).set 3 v3) (by decide) 4 v4
theorem box1 {w : World} {b : Nat} {c0 : Value} {e : TypeId} (h : At w b #[c0] e) : w.cell? ⟨b, 0, none⟩ = some c0 ∧ w.frozen? ⟨b, 0, none⟩ = false := by
  unfold At at h
  constructor
  · unfold World.cell?; rw [h]; rfl
  · unfold World.frozen?; rw [h]; rfl
end Go.Proofs.Tryz
