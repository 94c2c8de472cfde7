/- Plain: the assists, as the keys of a map and as a list. maps.Keys and slices.Sorted at this program, by contract. -/
import Derived.Test.YthlmjjdlmidnlaaGreatDoorArV3
import Derived.Lib.SlKeysI
import Derived.Maps.Views
import Derived.Maps.OwnSet
import Derived.Test.YthlmjjdlmidnlaaGreatDoorArVt
namespace Go.Proofs.Tryz
open Go Go.Am Go.RowKit Go.Dr
set_option maxRecDepth 100000

section
variable (t : Int → Int) (o : Int)
/-- The map behind k touches. -/
def mapK : Nat → DataW Unit
  | 0 => .map []
  | k + 1 => (mapK k).put (.int .i64 (t (o + (k : Int)))) (.lit (.bool true))
theorem isMap_mapK : ∀ k, Maps.IsMap (mapK t o k)
  | 0 => ⟨[], rfl⟩
  | k + 1 => (isMap_mapK k).put _ _
theorem has_mapK (x : Int) : ∀ k, Maps.has (mapK t o k) (.int .i64 x) = hasB t o x k
  | 0 => rfl
  | k + 1 => by
    by_cases hx : t (o + (k : Int)) = x
    · rw [mapK, hx, Maps.has_put_same (k := .int .i64 x) (isMap_mapK t o k) (by exact trivial)]; simp [hasB, hx]
    · rw [mapK, Maps.has_put_other (by simp only [ne_eq, Lit.int.injEq, true_and]; exact fun e => hx e.symm), has_mapK x k]; simp [hasB, hx]

/-- The map of an out. -/
def mapD (m : Nat) : DataW Unit := (mapK t o m).del (.int .i64 (t (o + ((m - 1 : Nat) : Int))))
theorem has_mapD (m : Nat) (x : Int) : Maps.has (mapD t o m) (.int .i64 x) = (decide (x ≠ t (o + ((m - 1 : Nat) : Int))) && hasB t o x m) := by
  by_cases hx : x = t (o + ((m - 1 : Nat) : Int))
  · rw [mapD, ← hx, Maps.has_del_same]; simp
  · rw [mapD, Maps.has_del_other (by simp only [ne_eq, Lit.int.injEq, true_and]; exact hx), has_mapK]; simp [hx]

theorem mem_asK (m : Nat) (x : Int) : ∀ k, x ∈ asK t o m k ↔ 1 ≤ x ∧ x ≤ k ∧ x ≠ t (o + ((m - 1 : Nat) : Int)) ∧ hasB t o x m = true
  | 0 => by simp [asK]; omega
  | k + 1 => by
    rw [asK, List.mem_append, mem_asK m x k]
    constructor
    · rintro (⟨h1, h2, h3⟩ | h)
      · exact ⟨h1, by omega, h3⟩
      · split at h
        · rename_i hc
          have hx : x = (k : Int) + 1 := by simpa using h
          subst hx
          exact ⟨by omega, by omega, hc⟩
        · cases h
    · rintro ⟨h1, h2, h3⟩
      by_cases hx : x = (k : Int) + 1
      · subst hx; right; rw [if_pos h3]; simp
      · left; exact ⟨h1, by omega, h3⟩
theorem sort_asK (m : Nat) : ∀ k, (asK t o m k).Pairwise (· < ·)
  | 0 => List.Pairwise.nil
  | k + 1 => by
    rw [asK, List.pairwise_append]
    refine ⟨sort_asK m k, ?_, fun a ha b hb => ?_⟩
    · split <;> simp
    · have := ((mem_asK t o m a k).1 ha).2.1
      split at hb
      · have : b = (k : Int) + 1 := by simpa using hb
        omega
      · cases hb

theorem hasB_mem {m : Nat} {x : Int} : ∀ {k : Nat}, hasB t o x k = true → ∃ j : Nat, j < k ∧ t (o + (j : Int)) = x
  | 0, h => by cases h
  | k + 1, h => by
    simp only [hasB, Bool.or_eq_true, decide_eq_true_eq] at h
    rcases h with h | h
    · obtain ⟨j, hj, e⟩ := hasB_mem (m := m) h; exact ⟨j, by omega, e⟩
    · exact ⟨k, by omega, h⟩

/-- The keys of the map, sorted, are the reference's list. -/
theorem keys_asL {ty : TypeId} {w : World} {b n : Nat} {R : Value → Option (DataW Unit × List MemPlace)} (K : Maps.Keyed prog ty) (hk : prog.underlying ty = some (.int .i64)) (m : Nat) (hown : w.ownsMap prog ty R b n (mapD t o m))
    (ht : ∀ j : Nat, j < m → 1 ≤ t (o + j) ∧ t (o + j) ≤ 9) {ss : List Int} (hp : ss.Perm (intKeys (mapD t o m))) : ss.mergeSort (fun x y => decide (x ≤ y)) = asL t o m := by
  have hc : CollectedI (mapD t o m) (fun _ => false) (asL t o m) := by
    refine ⟨(sort_asK t o m 9).imp fun h => by omega, fun x => ?_⟩
    rw [show asL t o m = asK t o m 9 from rfl, mem_asK, has_mapD]
    simp only [Bool.and_eq_true, decide_eq_true_eq, and_true]
    constructor
    · rintro ⟨_, _, h3⟩; exact h3
    · rintro ⟨h3, h4⟩
      obtain ⟨j, hj, e⟩ := hasB_mem (m := 0) t o h4
      have := ht j hj
      exact ⟨by omega, by omega, h3, h4⟩
  have hq := hc.perm hown K hk (fun _ => rfl)
  have e1 := mergeSort_of_perm_i (hp.trans hq.symm)
  have e2 : (asL t o m).mergeSort leI = asL t o m := by
    refine List.mergeSort_of_pairwise ?_
    exact (sort_asK t o m 9).imp fun h => by simp only [leI, decide_eq_true_eq]; omega
  exact e1.trans e2
end
end Go.Proofs.Tryz

namespace Go.Proofs.Tryz
open Go Go.Am Go.RowKit Go.Dr Go.Maps Go.Sort Go.Shelf
set_option maxRecDepth 100000

/-- slices.Sort's two contracts, at the fence that asks nothing. -/
theorem sortsL (m : Nat) : AnyZI.SortsIn prog sortedL_ren Fence.wide m :=
  ⟨fun blk off cap ss W hH hblk hsz => callsIn_wide.2 (AnyM.slices_Sort_int sortL blk off cap ss W hH hblk hsz),
   fun p cap W => callsIn_wide.2 (AnyM.slices_Sort_int_none sortL p cap W)⟩

theorem keys_w (mb : Option Nat) (W : World) : Calls prog 94 #[.map mb] W fun e w' => e = .returned (.func (.func 136) #[] #[.pointer (some ⟨W.heap.size, 0, none⟩)]) ∧ w' = W.alloc (.cells #[.map mb] 131) := by
  have cK : CallsIn Fence.wide 5 prog 94 #[.map mb] W fun e w' => e = .returned (.func (.func 136) #[] #[.pointer (some ⟨W.heap.size, 0, none⟩)]) ∧ w' = W.alloc (.cells #[.map mb] 131) := AnyZI.keys_in keysL Fence.wide 5 trivial rfl mb W
  exact callsIn_wide.1 cK

theorem sorted_w {H : Type} (b nn : Nat) (D0 : DataW H) (R : Value → Option (DataW H × List MemPlace)) (w : World) (hown : w.ownsMap prog 3 R b nn D0) (hmax : Maps.size D0 ≤ maxLen) (hbytes : Maps.size D0 * 8 ≤ 140737488355328) :
    Calls prog 93 #[.func (.func 136) #[] #[.pointer (some ⟨w.heap.size, 0, none⟩)]] (w.alloc (.cells #[.map (some b)] 131)) fun e w' => ∃ (v : Value) (ss : List Int), e = .returned v ∧ ss.Perm (intKeys D0) ∧
      w'.ownsRow (w.heap.size + 1) 3 1 v ss.length ((ss.mergeSort (fun x y => decide (x ≤ y))).map encZ) ∧ Below (w.heap.size + 1) (w.alloc (.cells #[.map (some b)] 131)) w' := by
  have hbl := hown.lt
  have hseq : SeqGives Fence.wide 2 prog 136 #[.pointer (some ⟨w.heap.size, 0, none⟩)] encZ (fun ss => ss.Perm (intKeys D0)) (Maps.size D0) (w.alloc (.cells #[.map (some b)] 131)) :=
    AnyZI.keys_gives (ρ := keysL_ren) { keysL with } Fence.wide _ trivial rfl (by omega) w.heap.size b nn D0 _ (by simp) (by simp) (by
      obtain ⟨es, clock, hb, Ft, hs, hD⟩ := hown
      exact ⟨es, clock, (Below.heap_alloc _ _ b hbl).trans hb, Ft, hs, hD⟩)
  have cS := AnyZI.sorted_in sortedL Fence.wide 5 trivial trivial trivial trivial rfl (by omega) (sortsL _) (enters_of func135 (by kernel_rfl) rfl) 136 #[.pointer (some ⟨w.heap.size, 0, none⟩)] trivial (enters_of func136 (by kernel_rfl) rfl) _ _ hmax hbytes _ hseq
  change CallsIn _ _ prog 93 _ _ _ at cS
  refine (callsIn_wide.1 cS).mono ?_
  rintro e w' ⟨v, ss, rfl, hS, hrow, hnil, hb⟩
  have hrow' : w'.ownsRow (w.alloc (.cells #[.map (some b)] 131)).heap.size 3 1 v ss.length ((ss.mergeSort (fun x y => decide (x ≤ y))).map encZ) := hrow
  exact ⟨v, ss, rfl, hS, by simpa using hrow', by simpa using hb⟩
end Go.Proofs.Tryz
