/- Split, Trim and Contains of package strings, as Parse calls them: by the shelf. The words of a string: the iterator's contract. A row whose law asks for what a variable of the library's own holds. -/
import Derived.Test.YthlmjjdlmidnlaaGreatDoorAtDs
import Derived.Test.YthlmjjdlmidnlaaGreatDoorAsQs
import Derived.RangeFuncNested
import Derived.RangeFuncBound
import Derived.RangeFuncCalls
import Derived.RangeFuncLeaves
import Derived.Shelf.Abstract
import Derived.Shelf.RegionOpen
import Derived.WalkKit
import Derived.OwnWalkIn
import Derived.TacticsInMore
import Derived.LoopNIn
import Derived.LoopIn
import Derived.Test.YthlmjjdlmidnlaaGreatDoorArO
import Derived.Shelf.Vars
namespace Go.Proofs.Tryz
open Go Go.Am Go.RowKit Go.Dr
set_option maxRecDepth 100000

/-- The library's variable that strings.Index reads holds some number. -/
def MaxL (w : World) : Prop := ∃ m, w.cell? ⟨2, 0, none⟩ = some (.int .i64 m)
theorem MaxL.below {w W : World} (h : MaxL w) (hb : Below w.heap.size w W) : MaxL W := by
  obtain ⟨m, hm⟩ := h
  exact ⟨m, (hb.cell (cell_under hm)).trans hm⟩

theorem bA_data (s : ByteArray) : bA s.data.toList = s := by
  cases s
  simp [bA]
theorem split_vals (l : List UInt8) : (Lib.splitB ⟨#[32]⟩ 0 (Lib.countB (bA l) ⟨#[32]⟩) (bA l)).map Value.string = (spl 32 l).map strV := by
  have h := splitB_spl (bA l) 32
  have e : (bA l).data.toList = l := rfl
  rw [e] at h
  rw [← h, List.map_map]
  apply List.map_congr_left
  intro s _
  show Value.string s = Value.string (bA s.data.toList)
  rw [bA_data]
theorem split_w (l : List UInt8) (hl : l.length ≤ 1000000) (w : World) (hm : MaxL w) :
    Calls prog 123 #[.string (bA l), .string { data := #[32] }] w fun e w' => e = .returned (.slice (some ⟨w.heap.size, 0, none⟩) (spl 32 l).length (spl 32 l).length) ∧ w' = w.alloc (.cells ((spl 32 l).map strV).toArray 9) := by
  obtain ⟨m, hm⟩ := hm
  have h := Any.strings_Split splitSL (by kernel_rfl) (bA l) ⟨#[32]⟩ m w (by rw [bA_size]; omega) hm (by decide)
  have e := split_vals l
  have el : Lib.countB (bA l) ⟨#[32]⟩ + 1 = (spl 32 l).length := by
    have := congrArg List.length e
    rw [List.length_map, List.length_map, Lib.splitB_all ⟨#[32]⟩ (by decide) 0 _ _ rfl] at this
    exact this
  rw [e, el] at h
  exact h

def pitS : ByteArray := { data := #[66, 67, 83, 70, 88, 72] }
theorem trim_w (l : List UInt8) (hl : l.length ≤ 1000000) (w : World) :
    Calls prog 86 #[.string (bA l), .string { data := #[66, 67, 83, 70, 88, 72] }] w fun e w' => (∃ z, e = .returned (.string (bA z)) ∧ (z = [] ↔ l.all pitB = true)) ∧ Below w.heap.size w w' := by
  refine (Any.strings_Trim_laid trimSL (by kernel_rfl) (bA l) pitS w (by rw [bA_size]; omega) (by decide) (ascii_of_all (by decide))).mono ?_
  rintro e w' ⟨rfl, hb⟩
  refine ⟨⟨Lib.trimS l [66, 67, 83, 70, 88, 72], rfl, ?_⟩, hb⟩
  rw [trim_all, List.all_eq_true]
  exact Iff.rfl

theorem index_one (c : UInt8) : ∀ l : List UInt8, (0 ≤ Lib.index l [c]) ↔ c ∈ l
  | [] => by simp [Lib.index]
  | b :: l => by
    have ih := index_one c l
    have hge := Lib.index_ge l [c]
    rw [Lib.index]
    by_cases h : c = b
    · subst h
      simp [List.isPrefixOf]
    · have hp : ([c] : List UInt8).isPrefixOf (b :: l) = false := by simp [List.isPrefixOf, h]
      rw [hp]
      by_cases hm : Lib.index l [c] = -1
      · rw [hm] at ih
        simp [hm, h]
        exact fun q => absurd (ih.2 q) (by decide)
      · have : ¬ (Lib.index l [c] == -1) = true := fun q => hm (beq_iff_eq.1 q)
        simp [this, h]
        rw [← ih]
        omega
theorem contains_one (l : List UInt8) (c : UInt8) : Lib.contains l [c] = l.contains c := by
  unfold Lib.contains
  rw [Bool.eq_iff_iff, decide_eq_true_eq, List.contains_iff_mem]
  exact index_one c l
theorem contains_w (b : UInt8) (w : World) (hm : MaxL w) :
    Calls prog 72 #[.string { data := #[75, 87, 72, 73, 88, 78, 89] }, .string (bA [b])] w fun e w' => e = .returned (.bool (evB b)) ∧ w' = w := by
  obtain ⟨m, hm⟩ := hm
  have h := Any.strings_Contains containsSL (⟨#[75, 87, 72, 73, 88, 78, 89]⟩ : ByteArray) (bA [b]) m w (by decide) hm
  have e : Lib.contains (⟨#[75, 87, 72, 73, 88, 78, 89]⟩ : ByteArray).data.toList (bA [b]).data.toList = evB b := contains_one _ _
  rw [e] at h
  exact h
end Go.Proofs.Tryz

namespace Go.Proofs.Tryz
open Go Go.Am Go.RowKit Go.Dr Go.Shelf
set_option maxRecDepth 100000
attribute [local go_sem] Oper.semAt_some

/-- Blocks of strings stay as they are. -/
def Kp9 (W W' : World) : Prop := ∀ (k : Nat) (cs : Array Value) (fr : Nat × Nat), W.heap[k]? = some (.cells cs 9 fr) → W'.heap[k]? = W.heap[k]?
theorem Kp9.t {A B C : World} (h : Kp9 A B) (k : Kp9 B C) : Kp9 A C := fun i cs fr hi => (k i cs fr ((h i cs fr hi).trans hi)).trans (h i cs fr hi)
theorem kp9_b {w : World} (W : World) (l : Nat) (o o' : Obj) (_ : w.heap.size ≤ l) (h : W.heap[l]? = some o) (hc : o.isCells = false) (_ : o.isWalk = false) : Kp9 W (W.putObj l o') := fun i cs fr hi => by
  refine World.putObj_heap_other fun e => ?_
  subst e
  rw [hi] at h
  cases h
  cases hc

/-- The words with the places where they begin. -/
def withAt : Nat → List (List UInt8) → List (Nat × List UInt8)
  | _, [] => []
  | k, w :: r => (k, w) :: withAt (k + w.length + 1) r
theorem withAt_len : ∀ (k : Nat) (ws : List (List UInt8)), (withAt k ws).length = ws.length
  | _, [] => rfl
  | k, w :: r => by rw [withAt, List.length_cons, List.length_cons, withAt_len]
theorem withAt_get : ∀ (k : Nat) (ws : List (List UInt8)) (i : Nat) (w : List UInt8), ws[i]? = some w → (withAt k ws)[i]? = some (k + atW (ws.take i), w)
  | k, x :: r, 0, w, h => by
    simp at h; subst h
    simp [withAt, atW]
  | k, x :: r, i + 1, w, h => by
    rw [withAt, List.getElem?_cons_succ, withAt_get _ r i w (by simpa using h), List.take_succ_cons, atW]
    congr 2; omega
  | _, [], _, _, h => by simp at h
def encW (x : Nat × List UInt8) : Array Value := #[.int .i64 (x.1 : Int), .string (bA (x.2.take 4096))]
theorem atW_take_le {ws : List (List UInt8)} {i : Nat} : atW (ws.take i) ≤ atW ws := by
  have := atW_append (ws.take i) (ws.drop i)
  rw [List.take_append_drop] at this
  omega

set_option maxHeartbeats 3200000 in
theorem words_stops (n : Nat) (hn : 2 ≤ n) (l : List UInt8) (hl : l.length ≤ 4096) (B : Nat) (w : World) (hm : MaxL w) (hs : w.cell? ⟨B, 0, none⟩ = some (.string (bA l))) :
    SeqStopsK Fence.wide n prog 122 #[.pointer (some ⟨B, 0, none⟩)] encW Kp9 (fun xs => xs = withAt 0 (spl 32 l)) (fun pre => pre <+: withAt 0 (spl 32 l)) (spl 32 l).length w := fun l' J Jx W hW hJ hJx hY h0 => by
  have hsW : W.cell? ⟨B, 0, none⟩ = some (.string (bA l)) := (hW.cell (cell_under hs)).trans hs
  have hmW := hm.below hW
  have cS := split_w l (by omega) W hmW
  refine callsIn_of_wp func122 rfl trivial ?_ rfl
  simp only [ntmps122, List.size_toArray, List.length_cons, List.length_nil, Nat.reduceAdd, Nat.reduceSub, Array.replicate_succ, Array.replicate_zero, List.push_toArray, List.append_toArray, List.nil_append, List.cons_append]
  have h1 : 1 ≤ n := by omega
  have hg : ∀ j x, (spl 32 l)[j]? = some x → (W.alloc (.cells ((spl 32 l).map strV).toArray 9)).cell? ⟨W.heap.size, j, none⟩ = some (.string (bA x)) := fun j x hj => by
    rw [cell_new _ _ _ _ rfl, List.getElem?_toArray, List.getElem?_map, hj]; rfl
  have hat := at_new W ((spl 32 l).map strV).toArray 9
  have hJ1 : J [] (W.alloc (.cells ((spl 32 l).map strV).toArray 9)) := hJ _ _ _ none h0 (World.grownBy_alloc W _ none) (fun r e => by cases e)
  have hwl : ∀ x ∈ spl 32 l, x.length ≤ 4096 := fun x hx => by
    obtain ⟨r, z, hrz⟩ := List.append_of_mem hx
    have := atW_spl l
    rw [hrz, atW_append, atW] at this
    omega
  have hal := atW_spl l
  have hcl : (spl 32 l).length ≤ 4097 := by
    rw [spl_length]
    have := List.count_le_length (a := (32 : UInt8)) (l := l)
    omega
  gi_wp2_with (refine ⟨trivial, ?_⟩; gi_at_call 123; refine (callsIn_wide.2 cS).mono ?_; rintro e w' ⟨rfl, rfl⟩)
  clear cS h0 hsW hmW hm hs hW
  generalize hGd : W.heap.size = G at *
  generalize W.alloc (.cells ((spl 32 l).map strV).toArray 9) = W1 at hg hat hJ1 ⊢
  obtain ⟨ws, hws⟩ : ∃ ws, spl 32 l = ws := ⟨_, rfl⟩
  rw [hws] at hY hg hat hwl hal hcl ⊢
  gi_loopw [3, 9] (fun s3 s9 wr => ∃ i : Nat, i ≤ ws.length ∧ s9 = .int .i64 i ∧ s3 = .int .i64 ((atW (ws.take i) : Nat) : Int) ∧ J ((withAt 0 ws).take i) wr ∧ At wr G (ws.map strV).toArray 9) (fun _ s9 _ => ws.length - (numOf' s9).toNat)
  case atStart => exact ⟨0, Nat.zero_le _, rfl, rfl, hJ1, hat⟩
  case round =>
    clear hJ1 hg hat
    obtain ⟨i, hi, rfl, rfl, hJi, hat⟩ := hrel
    by_cases hin : i < ws.length
    · obtain ⟨x, hx⟩ : ∃ x, ws[i]? = some x := ⟨_, List.getElem?_eq_getElem hin⟩
      have hxl := hwl x (List.mem_of_getElem? hx)
      have hcx : wr.cell? ⟨G, i, none⟩ = some (.string (bA x)) := by
        unfold World.cell?
        unfold At at hat
        rw [hat]
        show ((ws.map strV).toArray)[i]? = _
        rw [List.getElem?_toArray, List.getElem?_map, hx]; rfl
      have hy0 := hY ((withAt 0 ws).take i) (atW (ws.take i), x) wr hJi (by rw [List.length_take, withAt_len]; omega)
      have hpre : (withAt 0 ws).take i ++ [(atW (ws.take i), x)] = (withAt 0 ws).take (i + 1) := by
        rw [List.take_add_one, withAt_get 0 ws i x hx, Nat.zero_add]; rfl
      have hstep : atW (ws.take (i + 1)) = atW (ws.take i) + x.length + 1 := by
        rw [List.take_add_one, hx]
        exact atW_snoc x _
      have hle := atW_take_le (ws := ws) (i := i + 1)
      rw [hpre] at hy0
      have een : encW (atW (ws.take i), x) = #[.int .i64 ((atW (ws.take i) : Nat) : Int), .string (bA x)] := by
        unfold encW
        rw [List.take_of_length_le hxl]
      rw [een] at hy0
      obtain ⟨fn, tmps, assign, body, hy, hR⟩ := hy0
      have hsz : (bA x).size = x.length := bA_size x
      obtain ⟨k, hk⟩ : ∃ k, atW (ws.take i) = k := ⟨_, rfl⟩
      rw [hk] at hy hstep ⊢
      have HST := Lib.hid hstep
      have hkb : k + x.length + 1 ≤ 4097 := by omega
      clear hstep hle een hpre hJi hY hk hal
      gi_wp2
      refine hR.mono ?_
      rintro e W3 (⟨rfl, hJ3, hk3⟩ | ⟨rfl, hJx3⟩)
      · have hat3 : At W3 G (ws.map strV).toArray 9 := (hk3 G _ _ hat).trans hat
        clear hR hy hcx hat hk3
        gi_wp2
        go_roundw
        case rel => exact ⟨i + 1, by omega, by go_num, by rw [HST.out]; go_num, hJ3, hat3⟩
        case measure => simp [numOf'] <;> omega
      · gi_wp2
        refine bodyPost_ret (results_none rfl _ _ _) rfl ?_
        exact ⟨⟨_, rfl⟩, .inr ⟨_, by rw [hws]; exact List.take_prefix (i + 1) _, hJx3⟩⟩
    · have hil : i = ws.length := by omega
      have HJ := Lib.hid hJi
      clear hJi
      gi_wp2
      go_end0
      refine ⟨⟨_, rfl⟩, .inl ⟨_, ?_, HJ.out⟩⟩
      rw [List.take_of_length_le (by rw [withAt_len]; omega), hws]
end Go.Proofs.Tryz

namespace Go.Proofs.Tryz
open Go Go.Am Go.ChangeShapes Go.WideShapes Go.ChangeAt Go.RowKit
open YthlmjjdlmidnlaaGreatDoor
set_option maxRecDepth 100000

theorem max_of {w : World} (h : w.ShapedOpen prog) : MaxL w :=
  cell_of_shapedOpen_int (g := 2) (zero := #[.int .i64 0]) (t := 3) h (of_decide_eq_true (by kernel_rfl)) (by kernel_rfl) rfl (by kernel_rfl) (by kernel_rfl) underlying3
theorem handed_shaped {H : Type} {enc : TypeId × Value → H} {a : Assume} {C : Checked} {os : Os} {f : FuncId} {fn : Func} {s : ChangeSpec} {conds : List PathCond} {apart fresh handsOn again : Bool} {X : World → Array Value → Prop}
    (hX : ∀ (w w' : World) (args : Array Value), w.heap = w'.heap → X w args → X w' args)
    (own : ownKnob C.prog.godebug = none) (started : os.Started) (noInit : C.prog.inits.idxOf? f = none) (hfn : C.prog.funcs[f]? = some fn)
    (witness : ∃ (w : World) (tape : Tape) (i : Input), w.os = os ∧ (w.forCall tape i).Shaped C.prog ∧ i.vars = [] ∧ Input.okWide C.prog (w.forCall tape i) .any w.heap.size f i ∧
      ((s.pre enc C.prog fn conds apart (w.forCall tape i).memory i.args ∧ X (w.forCall tape i).memory i.args) ∧ sizedMet enc C.prog fn (OpenSpec.ofChange s) apart (w.forCall tape i).memory i.args) ∧ a.holds C.prog (lone (Frame.enter C.prog f i.args .normal) [] (w.forCall tape i)))
    (contract : ∀ (W : World) (args : Array Value) (ds gs : List (DataW H)) (before : List MemPlace) (base : Nat), (∀ (j : Nat) t v, fn.params[j]? = some t → args[j]? = some v → Value.okWide C.prog W .any base t v) →
      DataW.Whole enc C.prog fn.params.toList s.vars apart W args.toList ds gs before → X W args → W.ShapedOpen C.prog → Calls C.prog f args W fun e W' => ∃ v, e = .returned v ∧ s.post enc C.prog fn apart fresh handsOn again W args v W') :
    ReturnsInHanded a C os f .any (fun w args => (s.pre enc C.prog fn conds apart w args ∧ X w args) ∧ sizedMet enc C.prog fn (OpenSpec.ofChange s) apart w args) (s.post enc C.prog fn apart fresh handsOn again) :=
  returnsInHanded_of_calls own started noInit witness fun w tape i _ hsh _ hok hpre _ => by
    obtain ⟨-, -, -, g, hg, -, -, -, -, hval⟩ := hok
    obtain rfl : g = fn := Option.some.inj (hg.symm.trans hfn)
    obtain ⟨⟨⟨ds, gs, before, hw, -⟩, hx⟩, -⟩ := hpre
    refine (contract (w.forCall tape i) i.args ds gs before _ hval (DataW.Whole.of_heap (w' := w.forCall tape i) (by rfl) hw) (hX _ _ _ (by rfl) hx) hsh).mono ?_
    rintro _ _ ⟨_, rfl, hp⟩
    exact ChangeSpec.post_blind hp
end Go.Proofs.Tryz
