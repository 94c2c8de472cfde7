/- The keys of a map, sorted: the shelf's contracts at this program, in plain words (written by the shelf's plain mode). Plain: the assists, as the keys of a map and as a list. maps.Keys and slices.Sorted at this program, by contract. Assists of the program, by the kit's walk. -/
import Derived.Shelf.SlIterI.Nil
import Derived.Shelf.SortM.Plain
import Derived.Shelf.SortM.SortNone
import Derived.Ground.GgzProg
import Derived.Ground.SlgmProg
import Derived.Test.YthlmjjdlmidnlaaGreatDoorProg
import Derived.Test.YthlmjjdlmidnlaaGreatDoorArV3
import Derived.Lib.SlKeysI
import Derived.Maps.Views
import Derived.Maps.OwnSet
import Derived.Test.YthlmjjdlmidnlaaGreatDoorArVf
import Derived.Lib.Hide
namespace Go.Proofs
open Go.Shelf
def Tryz.keysL_ren : Go.Shelf.Ren := ⟨fun | 7 => 94 | 10 => 136 | n => n, fun | 23 => 131 | 26 => 3 | 3 => 4 | 28 => 134 | 0 => 0 | 27 => 133 | 33 => 176 | 4 => 4 | n => n, fun | n => n⟩
theorem Tryz.keysL : Go.Proofs.SlLaysZI.n7 Tryz.prog Tryz.keysL_ren := {
  mixed := by kernel_rfl
  f7 := ⟨Tryz.f94.name, by decide, Tryz.func94.trans (congrArg some (by kernel_rfl))⟩
  f10 := ⟨Tryz.f136.name, by decide, Tryz.func136.trans (congrArg some (by kernel_rfl))⟩
  t0 := Tryz.underlying0
  a0 := Tryz.isAgg0
  z0 := Tryz.sizeOf0
  v0 := Tryz.zeroValue0
  t4 := Tryz.underlying4
  a4 := Tryz.isAgg4
  z4 := Tryz.sizeOf4
  v4 := Tryz.zeroValue4
  t23 := Tryz.underlying131
  a23 := Tryz.isAgg131
  z23 := Tryz.sizeOf131
  v23 := Tryz.zeroValue131
  t26 := Tryz.underlying3
  a26 := Tryz.isAgg3
  z26 := Tryz.sizeOf3
  v26 := Tryz.zeroValue3
  t27 := Tryz.underlying133
  a27 := Tryz.isAgg133
  z27 := Tryz.sizeOf133
  v27 := Tryz.zeroValue133
  t28 := Tryz.underlying134
  a28 := Tryz.isAgg134
  z28 := Tryz.sizeOf134
  v28 := Tryz.zeroValue134
  t33 := Tryz.underlying176
  a33 := Tryz.isAgg176
  z33 := Tryz.sizeOf176
  v33 := Tryz.zeroValue176 }
def Tryz.sortedL_ren : Go.Shelf.Ren := ⟨fun | 6 => 93 | 8 => 134 | 9 => 135 | 11 => 160 | 13 => 162 | 12 => 161 | 23 => 185 | 24 => 186 | 14 => 176 | 15 => 177 | 16 => 178 | 17 => 179 | 18 => 180 | 19 => 181 | 20 => 182 | 21 => 183 | 22 => 184 | 25 => 194 | 26 => 195 | 27 => 196 | 28 => 197 | 29 => 198 | 30 => 149 | 31 => 200 | n => n, fun | 26 => 3 | 28 => 134 | 24 => 25 | 0 => 0 | 3 => 3 | 37 => 184 | 48 => 207 | 50 => 209 | 4 => 4 | 40 => 200 | 39 => 199 | 45 => 172 | 5 => 5 | 9 => 9 | 51 => 219 | 55 => 223 | 57 => 225 | 58 => 226 | 33 => 176 | n => n, fun | n => n⟩
theorem Tryz.sortedL : Go.Proofs.SlLaysZI.n6 Tryz.prog Tryz.sortedL_ren := {
  mixed := by kernel_rfl
  f6 := ⟨Tryz.f93.name, by decide, Tryz.func93.trans (congrArg some (by kernel_rfl))⟩
  f8 := ⟨Tryz.f134.name, by decide, Tryz.func134.trans (congrArg some (by kernel_rfl))⟩
  f11 := ⟨Tryz.f160.name, by decide, Tryz.func160.trans (congrArg some (by kernel_rfl))⟩
  t0 := Tryz.underlying0
  a0 := Tryz.isAgg0
  z0 := Tryz.sizeOf0
  v0 := Tryz.zeroValue0
  t24 := Tryz.underlying25
  a24 := Tryz.isAgg25
  z24 := Tryz.sizeOf25
  v24 := Tryz.zeroValue25
  t26 := Tryz.underlying3
  a26 := Tryz.isAgg3
  z26 := Tryz.sizeOf3
  v26 := Tryz.zeroValue3
  t28 := Tryz.underlying134
  a28 := Tryz.isAgg134
  z28 := Tryz.sizeOf134
  v28 := Tryz.zeroValue134
  i26 := by kernel_rfl }
def Tryz.sortL_ren : Go.Shelf.Ren := ⟨fun | 5 => 135 | 8 => 162 | 7 => 161 | 19 => 185 | 20 => 186 | 10 => 176 | 11 => 177 | 12 => 178 | 13 => 179 | 14 => 180 | 15 => 181 | 16 => 182 | 17 => 183 | 18 => 184 | 30 => 194 | 31 => 195 | 32 => 196 | 33 => 197 | 34 => 198 | 35 => 149 | 40 => 200 | n => n, fun | 23 => 25 | 25 => 3 | 3 => 3 | 32 => 184 | 22 => 25 | 0 => 0 | 44 => 207 | 46 => 209 | 4 => 4 | 36 => 200 | 35 => 199 | 41 => 172 | 5 => 5 | 9 => 9 | 53 => 219 | 57 => 223 | 63 => 225 | 64 => 226 | n => n, fun | n => n⟩
theorem Tryz.sortL : Go.Proofs.SlLaysM.n5 Tryz.prog Tryz.sortL_ren := {
  mixed := by kernel_rfl
  f5 := ⟨Tryz.f135.name, by decide, Tryz.func135.trans (congrArg some (by kernel_rfl))⟩
  f7 := ⟨Tryz.f161.name, by decide, Tryz.func161.trans (congrArg some (by kernel_rfl))⟩
  f8 := Tryz.func162.trans (congrArg some (by kernel_rfl))
  f10 := ⟨Tryz.f176.name, by decide, Tryz.func176.trans (congrArg some (by kernel_rfl))⟩
  f11 := ⟨Tryz.f177.name, by decide, Tryz.func177.trans (congrArg some (by kernel_rfl))⟩
  f12 := ⟨Tryz.f178.name, by decide, Tryz.func178.trans (congrArg some (by kernel_rfl))⟩
  f13 := ⟨Tryz.f179.name, by decide, Tryz.func179.trans (congrArg some (by kernel_rfl))⟩
  f14 := ⟨Tryz.f180.name, by decide, Tryz.func180.trans (congrArg some (by kernel_rfl))⟩
  f15 := ⟨Tryz.f181.name, by decide, Tryz.func181.trans (congrArg some (by kernel_rfl))⟩
  f16 := ⟨Tryz.f182.name, by decide, Tryz.func182.trans (congrArg some (by kernel_rfl))⟩
  f17 := ⟨Tryz.f183.name, by decide, Tryz.func183.trans (congrArg some (by kernel_rfl))⟩
  f18 := ⟨Tryz.f184.name, by decide, Tryz.func184.trans (congrArg some (by kernel_rfl))⟩
  f19 := Tryz.func185.trans (congrArg some (by kernel_rfl))
  f20 := Tryz.func186.trans (congrArg some (by kernel_rfl))
  f30 := ⟨Tryz.f194.name, by decide, Tryz.func194.trans (congrArg some (by kernel_rfl))⟩
  f31 := Tryz.func195.trans (congrArg some (by kernel_rfl))
  f32 := Tryz.func196.trans (congrArg some (by kernel_rfl))
  f33 := ⟨Tryz.f197.name, by decide, Tryz.func197.trans (congrArg some (by kernel_rfl))⟩
  f34 := ⟨Tryz.f198.name, by decide, Tryz.func198.trans (congrArg some (by kernel_rfl))⟩
  f35 := ⟨Tryz.f149.name, by decide, Tryz.func149.trans (congrArg some (by kernel_rfl))⟩
  f40 := ⟨Tryz.f200.name, by decide, Tryz.func200.trans (congrArg some (by kernel_rfl))⟩
  t0 := Tryz.underlying0
  a0 := Tryz.isAgg0
  z0 := Tryz.sizeOf0
  v0 := Tryz.zeroValue0
  t3 := Tryz.underlying3
  a3 := Tryz.isAgg3
  z3 := Tryz.sizeOf3
  v3 := Tryz.zeroValue3
  t4 := Tryz.underlying4
  a4 := Tryz.isAgg4
  z4 := Tryz.sizeOf4
  v4 := Tryz.zeroValue4
  t5 := Tryz.underlying5
  a5 := Tryz.isAgg5
  z5 := Tryz.sizeOf5
  v5 := Tryz.zeroValue5
  t9 := Tryz.underlying9
  a9 := Tryz.isAgg9
  z9 := Tryz.sizeOf9
  v9 := Tryz.zeroValue9
  t22 := Tryz.underlying25
  a22 := Tryz.isAgg25
  z22 := Tryz.sizeOf25
  v22 := Tryz.zeroValue25
  t23 := Tryz.underlying25
  a23 := Tryz.isAgg25
  z23 := Tryz.sizeOf25
  v23 := Tryz.zeroValue25
  t25 := Tryz.underlying3
  a25 := Tryz.isAgg3
  z25 := Tryz.sizeOf3
  v25 := Tryz.zeroValue3
  t32 := Tryz.underlying184
  a32 := Tryz.isAgg184
  z32 := Tryz.sizeOf184
  v32 := Tryz.zeroValue184
  t35 := Tryz.underlying199
  a35 := Tryz.isAgg199
  z35 := Tryz.sizeOf199
  v35 := Tryz.zeroValue199
  t36 := Tryz.underlying200
  a36 := Tryz.isAgg200
  z36 := Tryz.sizeOf200
  v36 := Tryz.zeroValue200
  t41 := Tryz.underlying172
  a41 := Tryz.isAgg172
  z41 := Tryz.sizeOf172
  v41 := Tryz.zeroValue172
  t44 := Tryz.underlying207
  a44 := Tryz.isAgg207
  z44 := Tryz.sizeOf207
  v44 := Tryz.zeroValue207
  t46 := Tryz.underlying209
  a46 := Tryz.isAgg209
  z46 := Tryz.sizeOf209
  v46 := Tryz.zeroValue209
  t53 := Tryz.underlying219
  a53 := Tryz.isAgg219
  z53 := Tryz.sizeOf219
  v53 := Tryz.zeroValue219
  t57 := Tryz.underlying223
  a57 := Tryz.isAgg223
  z57 := Tryz.sizeOf223
  v57 := Tryz.zeroValue223
  t63 := Tryz.underlying225
  a63 := Tryz.isAgg225
  z63 := Tryz.sizeOf225
  v63 := Tryz.zeroValue225
  t64 := Tryz.underlying226
  a64 := Tryz.isAgg226
  z64 := Tryz.sizeOf226
  v64 := Tryz.zeroValue226 }
end Go.Proofs

namespace Go.Proofs.Tryz
open Go Go.Am Go.RowKit Go.Dr
set_option maxRecDepth 100000

section
variable (t : Int → Int) (o : Int)
/-- The map behind k touches. -/
def mapK : Nat → DataW Unit
  | 0 => .map []
  | k + 1 => (mapK k).put (.int .i64 (t (o + (k : Int)))) (.lit (.bool true))
theorem isMap_mapK : ∀ k, Maps.IsMap (mapK t o k)
  | 0 => ⟨[], rfl⟩
  | k + 1 => (isMap_mapK k).put _ _
theorem has_mapK (x : Int) : ∀ k, Maps.has (mapK t o k) (.int .i64 x) = hasB t o x k
  | 0 => rfl
  | k + 1 => by
    by_cases hx : t (o + (k : Int)) = x
    · rw [mapK, hx, Maps.has_put_same (k := .int .i64 x) (isMap_mapK t o k) (by exact trivial)]; simp [hasB, hx]
    · rw [mapK, Maps.has_put_other (by simp only [ne_eq, Lit.int.injEq, true_and]; exact fun e => hx e.symm), has_mapK x k]; simp [hasB, hx]

/-- The map of an out. -/
def mapD (m : Nat) : DataW Unit := (mapK t o m).del (.int .i64 (t (o + ((m - 1 : Nat) : Int))))
theorem has_mapD (m : Nat) (x : Int) : Maps.has (mapD t o m) (.int .i64 x) = (decide (x ≠ t (o + ((m - 1 : Nat) : Int))) && hasB t o x m) := by
  by_cases hx : x = t (o + ((m - 1 : Nat) : Int))
  · rw [mapD, ← hx, Maps.has_del_same]; simp
  · rw [mapD, Maps.has_del_other (by simp only [ne_eq, Lit.int.injEq, true_and]; exact hx), has_mapK]; simp [hx]

theorem mem_asK (m : Nat) (x : Int) : ∀ k, x ∈ asK t o m k ↔ 1 ≤ x ∧ x ≤ k ∧ x ≠ t (o + ((m - 1 : Nat) : Int)) ∧ hasB t o x m = true
  | 0 => by simp [asK]; omega
  | k + 1 => by
    rw [asK, List.mem_append, mem_asK m x k]
    constructor
    · rintro (⟨h1, h2, h3⟩ | h)
      · exact ⟨h1, by omega, h3⟩
      · split at h
        · rename_i hc
          have hx : x = (k : Int) + 1 := by simpa using h
          subst hx
          exact ⟨by omega, by omega, hc⟩
        · cases h
    · rintro ⟨h1, h2, h3⟩
      by_cases hx : x = (k : Int) + 1
      · subst hx; right; rw [if_pos h3]; simp
      · left; exact ⟨h1, by omega, h3⟩
theorem sort_asK (m : Nat) : ∀ k, (asK t o m k).Pairwise (· < ·)
  | 0 => List.Pairwise.nil
  | k + 1 => by
    rw [asK, List.pairwise_append]
    refine ⟨sort_asK m k, ?_, fun a ha b hb => ?_⟩
    · split <;> simp
    · have := ((mem_asK t o m a k).1 ha).2.1
      split at hb
      · have : b = (k : Int) + 1 := by simpa using hb
        omega
      · cases hb

theorem hasB_mem {m : Nat} {x : Int} : ∀ {k : Nat}, hasB t o x k = true → ∃ j : Nat, j < k ∧ t (o + (j : Int)) = x
  | 0, h => by cases h
  | k + 1, h => by
    simp only [hasB, Bool.or_eq_true, decide_eq_true_eq] at h
    rcases h with h | h
    · obtain ⟨j, hj, e⟩ := hasB_mem (m := m) h; exact ⟨j, by omega, e⟩
    · exact ⟨k, by omega, h⟩

/-- The keys of the map, sorted, are the reference's list. -/
theorem keys_asL {ty : TypeId} {w : World} {b n : Nat} {R : Value → Option (DataW Unit × List MemPlace)} (K : Maps.Keyed prog ty) (hk : prog.underlying ty = some (.int .i64)) (m : Nat) (hown : w.ownsMap prog ty R b n (mapD t o m))
    (ht : ∀ j : Nat, j < m → 1 ≤ t (o + j) ∧ t (o + j) ≤ 9) {ss : List Int} (hp : ss.Perm (intKeys (mapD t o m))) : ss.mergeSort (fun x y => decide (x ≤ y)) = asL t o m := by
  have hc : CollectedI (mapD t o m) (fun _ => false) (asL t o m) := by
    refine ⟨(sort_asK t o m 9).imp fun h => by omega, fun x => ?_⟩
    rw [show asL t o m = asK t o m 9 from rfl, mem_asK, has_mapD]
    simp only [Bool.and_eq_true, decide_eq_true_eq, and_true]
    constructor
    · rintro ⟨_, _, h3⟩; exact h3
    · rintro ⟨h3, h4⟩
      obtain ⟨j, hj, e⟩ := hasB_mem (m := 0) t o h4
      have := ht j hj
      exact ⟨by omega, by omega, h3, h4⟩
  have hq := hc.perm hown K hk (fun _ => rfl)
  have e1 := mergeSort_of_perm_i (hp.trans hq.symm)
  have e2 : (asL t o m).mergeSort leI = asL t o m := by
    refine List.mergeSort_of_pairwise ?_
    exact (sort_asK t o m 9).imp fun h => by simp only [leI, decide_eq_true_eq]; omega
  exact e1.trans e2
end
end Go.Proofs.Tryz

namespace Go.Proofs.Tryz
open Go Go.Am Go.RowKit Go.Dr Go.Maps Go.Sort Go.Shelf
set_option maxRecDepth 100000

/-- slices.Sort's two contracts, at the fence that asks nothing. -/
theorem sortsL (m : Nat) : AnyZI.SortsIn prog sortedL_ren Fence.wide m :=
  ⟨fun blk off cap ss W hH hblk hsz => callsIn_wide.2 (AnyM.slices_Sort_int sortL blk off cap ss W hH hblk hsz),
   fun p cap W => callsIn_wide.2 (AnyM.slices_Sort_int_none sortL p cap W)⟩

theorem keys_w (mb : Option Nat) (W : World) : Calls prog 94 #[.map mb] W fun e w' => e = .returned (.func (.func 136) #[] #[.pointer (some ⟨W.heap.size, 0, none⟩)]) ∧ w' = W.alloc (.cells #[.map mb] 131) := by
  have cK : CallsIn Fence.wide 5 prog 94 #[.map mb] W fun e w' => e = .returned (.func (.func 136) #[] #[.pointer (some ⟨W.heap.size, 0, none⟩)]) ∧ w' = W.alloc (.cells #[.map mb] 131) := AnyZI.keys_in keysL Fence.wide 5 trivial rfl mb W
  exact callsIn_wide.1 cK

theorem sorted_w {H : Type} (b nn : Nat) (D0 : DataW H) (R : Value → Option (DataW H × List MemPlace)) (w : World) (hown : w.ownsMap prog 3 R b nn D0) (hmax : Maps.size D0 ≤ maxLen) (hbytes : Maps.size D0 * 8 ≤ 140737488355328) :
    Calls prog 93 #[.func (.func 136) #[] #[.pointer (some ⟨w.heap.size, 0, none⟩)]] (w.alloc (.cells #[.map (some b)] 131)) fun e w' => ∃ (v : Value) (ss : List Int), e = .returned v ∧ ss.Perm (intKeys D0) ∧
      w'.ownsRow (w.heap.size + 1) 3 1 v ss.length ((ss.mergeSort (fun x y => decide (x ≤ y))).map encZ) ∧ Below (w.heap.size + 1) (w.alloc (.cells #[.map (some b)] 131)) w' := by
  have hbl := hown.lt
  have hseq : SeqGives Fence.wide 2 prog 136 #[.pointer (some ⟨w.heap.size, 0, none⟩)] encZ (fun ss => ss.Perm (intKeys D0)) (Maps.size D0) (w.alloc (.cells #[.map (some b)] 131)) :=
    AnyZI.keys_gives (ρ := keysL_ren) { keysL with } Fence.wide _ trivial rfl (by omega) w.heap.size b nn D0 _ (by simp) (by simp) (by
      obtain ⟨es, clock, hb, Ft, hs, hD⟩ := hown
      exact ⟨es, clock, (Below.heap_alloc _ _ b hbl).trans hb, Ft, hs, hD⟩)
  have cS := AnyZI.sorted_in sortedL Fence.wide 5 trivial trivial trivial trivial rfl (by omega) (sortsL _) (enters_of func135 (by kernel_rfl) rfl) 136 #[.pointer (some ⟨w.heap.size, 0, none⟩)] trivial (enters_of func136 (by kernel_rfl) rfl) _ _ hmax hbytes _ hseq
  change CallsIn _ _ prog 93 _ _ _ at cS
  refine (callsIn_wide.1 cS).mono ?_
  rintro e w' ⟨v, ss, rfl, hS, hrow, hnil, hb⟩
  have hrow' : w'.ownsRow (w.alloc (.cells #[.map (some b)] 131)).heap.size 3 1 v ss.length ((ss.mergeSort (fun x y => decide (x ≤ y))).map encZ) := hrow
  exact ⟨v, ss, rfl, hS, by simpa using hrow', by simpa using hb⟩
end Go.Proofs.Tryz

namespace Go.Proofs.Tryz
open Go Go.Am Go.RowKit Go.Dr
set_option maxRecDepth 100000

theorem asked_one {pl x : Int} {d : Nat → MvD} {n : Nat} {k k' : Int} {m m' : MvD} (h : Asked pl x d n k m) (h' : Asked pl x d n k' m') : k' = k ∧ m' = m := by
  rcases h with ⟨a0, rfl, rfl⟩ | ⟨a0, rfl, rfl, a3⟩ | ⟨a0, rfl, i, hi, rfl, hx, hno⟩ <;> rcases h' with ⟨b0, rfl, rfl⟩ | ⟨b0, rfl, rfl, b3⟩ | ⟨b0, rfl, j, hj, rfl, hy, hmo⟩
  · exact ⟨rfl, rfl⟩
  · exact absurd b0 a0
  · exact absurd b0 a0
  · exact absurd a0 b0
  · exact ⟨rfl, rfl⟩
  · exact absurd hy (a3 j hj)
  · exact absurd a0 b0
  · exact absurd hx (b3 i hi)
  · have : i = j := by
      rcases Nat.lt_trichotomy i j with h | h | h
      · exact absurd hx (hmo i h)
      · exact h
      · exact absurd hy (hno j h)
    subst this; exact ⟨rfl, rfl⟩
theorem first_or {d : Nat → MvD} {x : Int} : ∀ n : Nat, (∀ j, j < n → (d j).fr ≠ x) ∨ ∃ i, i < n ∧ (d i).fr = x ∧ ∀ j, j < i → (d j).fr ≠ x
  | 0 => .inl fun j hj => absurd hj (Nat.not_lt_zero _)
  | n + 1 => by
    rcases first_or (d := d) (x := x) n with h | ⟨i, hi, hx, hno⟩
    · by_cases hn : (d n).fr = x
      · exact .inr ⟨n, Nat.lt_succ_self n, hn, h⟩
      · refine .inl fun j hj => ?_
        by_cases e : j = n
        · subst e; exact hn
        · exact h j (by omega)
    · exact .inr ⟨i, by omega, hx, hno⟩
theorem asked_some (pl x : Int) (d : Nat → MvD) (n : Nat) : ∃ k m, Asked pl x d n k m := by
  by_cases h : oneV pl x = 0
  · rcases first_or (d := d) (x := x) n with h1 | ⟨i, hi, hx, hno⟩
    · exact ⟨_, _, .inr (.inl ⟨h, rfl, rfl, h1⟩)⟩
    · exact ⟨_, _, .inr (.inr ⟨h, rfl, i, hi, rfl, hx, hno⟩)⟩
  · exact ⟨_, _, .inl ⟨h, rfl, rfl⟩⟩

theorem own_some {w : World} {base n : Nat} {v : Value} {xs : List Value} (h : w.ownsRow base 3 1 v n xs) (hn : n ≠ 0) : ∃ g cap, v = .slice (some ⟨g, 0, none⟩) n cap ∧ base ≤ g ∧ g < w.heap.size := by
  rcases h.2 with ⟨rfl, rfl⟩ | ⟨g, cap, cur, rfl, h1, h2, h3⟩
  · exact absurd h.1.symm (by simp at hn)
  · exact ⟨g, cap, rfl, h1, lt_of_block h2⟩

/-- What Assists answers. -/
def asErr (k : Int) (m : MvD) : Int := if k = 0 then (if m.x = 0 then 15 else 0) else k
def asRes (k : Int) (m : MvD) : List Int := if asErr k m = 0 then asL m.t m.bo m.bn.toNat else []
def AssW (k : Int) (m : MvD) (B : Nat) (e : Ending) (w' : World) : Prop := ∃ v, e = .returned (.tuple #[v, .int .i64 (asErr k m)]) ∧ w'.ownsRow B 3 1 v (asRes k m).length (vsOf (asRes k m))

section
variable {w : World} {pl x : Int} {lx : Bool} {pvv ev : Value} {ad0 : Option Addr} {n c : Nat} {k : Int} {m : MvD}
theorem moveOf_at (hc : Chk w (.agg #[pvv, ev, .bool lx, .slice ad0 n c]) pl) {d : Nat → MvD} (hm : IsMoves w (.slice ad0 n c) d n) (hn : n ≤ 1000000) (hb : ∀ i, i < n → (d i).bn ≤ 1000000) (ha : Asked pl x d n k m) :
    Calls prog 92 #[.agg #[pvv, ev, .bool lx, .slice ad0 n c], .int .i64 x] w fun e w' => (∃ v, e = .returned (.tuple #[v, .int .i64 k]) ∧ OwnMvV w' w.heap.size v m) ∧ Below w.heap.size w w' := by
  refine (moveOf_w hc hm hn hb).mono ?_
  rintro e w' ⟨⟨v, k', m', rfl, hv, ha'⟩, hB⟩
  obtain ⟨rfl, rfl⟩ := asked_one ha ha'
  exact ⟨⟨v, rfl, hv⟩, hB⟩

theorem ass_bad (hc : Chk w (.agg #[pvv, ev, .bool lx, .slice ad0 n c]) pl) {d : Nat → MvD} (hm : IsMoves w (.slice ad0 n c) d n) (hn : n ≤ 1000000) (hb : ∀ i, i < n → (d i).bn ≤ 1000000) (ha : Asked pl x d n k m) (hne : ¬ asErr k m = 0) :
    Calls prog 29 #[.agg #[pvv, ev, .bool lx, .slice ad0 n c], .int .i64 x] w fun e w' => AssW k m w.heap.size e w' ∧ Below w.heap.size w w' := by
  have eR : asRes k m = [] := by unfold asRes; rw [if_neg hne]
  have hB : Below w.heap.size w (w.alloc (.cells #[pvv, ev, .bool lx, .slice ad0 n c] 24)) := (Below.refl _ _).alloc (Nat.le_refl _) _
  have cM := moveOf_at (hc.below hB) (hm.below hB) hn hb ha
  obtain ⟨r, hr⟩ : ∃ r : Int, (if (!decide (m.x ≠ 0)) = true then (15 : Int) else 0) = r := ⟨_, rfl⟩
  have cW : ∀ (W : World), Calls prog 71 #[.bool (!decide (m.x ≠ 0)), .int .i64 15] W fun e w' => e = .returned (.int .i64 r) ∧ w' = W := fun W => by rw [← hr]; exact when_w _ 15 W
  obtain ⟨v, hv⟩ : ∃ v : Int, (if k = 0 then r else k) = v := ⟨_, rfl⟩
  have cF : ∀ (b : Nat) (W : World), W.cell? ⟨b, 0, none⟩ = some (.int .i64 k) → W.cell? ⟨b, 1, none⟩ = some (.int .i64 r) → Calls prog 70 #[.slice (some ⟨b, 0, none⟩) 2 2] W fun e w' => e = .returned (.int .i64 v) ∧ Below W.heap.size W w' := fun b W h0 h1 => by rw [← hv]; exact first_w b k r W h0 h1
  have ev1 : asErr k m = v := by
    rw [← hv, ← hr]
    unfold asErr
    by_cases h0 : k = 0
    · rw [if_pos h0, if_pos h0]
      by_cases h1 : m.x = 0
      · rw [if_pos h1, if_pos (by simp [h1])]
      · rw [if_neg h1, if_neg (by simp [h1])]
    · rw [if_neg h0, if_neg h0]
  have hne' : ¬ v = 0 := by rw [← ev1]; exact hne
  have Hev : Hid (asErr k m = v) := Lib.hid ev1
  clear hv hr hc hm hb ha ev1 hne
  go_enter func29, ntmps29
  go_wp2_with (first
    | (go_at_call 92; refine cM.mono ?_; rintro e w2 ⟨⟨v', rfl, hv'⟩, hk2⟩; obtain ⟨f1, f2, xb, s, a5, k5, c5, rfl, hf1, hf2, hxb, hs, ho, h0⟩ := hv'.parts; rw [hxb] at cW; clear hf1 hf2 hxb)
    | (go_at_call 71; refine (cW _).mono ?_; rintro e w3 ⟨rfl, rfl⟩)
    | (go_at_call 70; refine (cF _ _ (by simp) (by simp)).mono ?_; rintro e w4 ⟨rfl, hk4⟩)
    | go_in)
  go_ret2
  refine ⟨⟨.slice none 0 0, by rw [Hev.out]; rfl, by rw [eR]; exact World.ownsRow_nil _ _ _ _⟩, ?_⟩
  have hb2 : Below w.heap.size w w2 := hB.trans (hk2.mono (by simp))
  exact ((hb2.alloc hb2.size _).alloc (by have := hb2.size; simp; omega) _).trans (hk4.mono (by have := hb2.size; simp; omega))

set_option maxHeartbeats 3200000 in
theorem ass_go (hc : Chk w (.agg #[pvv, ev, .bool lx, .slice ad0 n c]) pl) {d : Nat → MvD} (hm : IsMoves w (.slice ad0 n c) d n) (hn : n ≤ 1000000) (hb : ∀ i, i < n → (d i).bn ≤ 1000000) (ha : Asked pl x d n 0 m) (hx : m.x ≠ 0) (h1 : 1 ≤ m.bn) (h9 : m.bn ≤ 9)
    (ht : ∀ j : Nat, (j : Int) < m.bn → 1 ≤ m.t (m.bo + j) ∧ m.t (m.bo + j) ≤ 9) :
    Calls prog 29 #[.agg #[pvv, ev, .bool lx, .slice ad0 n c], .int .i64 x] w fun e w' => AssW 0 m w.heap.size e w' ∧ Below w.heap.size w w' := by
  have eE : asErr 0 m = 0 := by unfold asErr; rw [if_pos rfl, if_neg hx]
  have eR : asRes 0 m = asL m.t m.bo m.bn.toNat := by unfold asRes; rw [if_pos eE]
  have hB : Below w.heap.size w (w.alloc (.cells #[pvv, ev, .bool lx, .slice ad0 n c] 24)) := (Below.refl _ _).alloc (Nat.le_refl _) _
  have cM := moveOf_at (hc.below hB) (hm.below hB) hn hb ha
  have hxb : decide (m.x ≠ 0) = true := by simp [hx]
  have cW : ∀ (W : World), Calls prog 71 #[.bool false, .int .i64 15] W fun e w' => e = .returned (.int .i64 0) ∧ w' = W := fun W => when_w _ 15 W
  have cF : ∀ (b : Nat) (W : World), W.cell? ⟨b, 0, none⟩ = some (.int .i64 0) → W.cell? ⟨b, 1, none⟩ = some (.int .i64 0) → Calls prog 70 #[.slice (some ⟨b, 0, none⟩) 2 2] W fun e w' => e = .returned (.int .i64 0) ∧ Below W.heap.size W w' := fun b W h0 h1 => first_w b 0 0 W h0 h1
  have hmm := @run_makeMap prog
  have Hev : Hid (asErr 0 m = 0 ∧ asRes 0 m = asL m.t m.bo m.bn.toNat) := Lib.hid ⟨eE, eR⟩
  clear hc hm hb ha eE eR hx
  go_enter func29, ntmps29
  go_wp2_with (first
    | (go_at_call 92; refine cM.mono ?_; rintro e w2 ⟨⟨v', rfl, hv'⟩, hk2⟩; obtain ⟨f1, f2, xb, s, a5, k5, c5, rfl, hf1, hf2, hxb', hs, ho, h0⟩ := hv'.parts; rw [hxb] at hxb'; subst hxb'; clear hf1 hf2 hxb)
    | (go_at_call 71; refine (cW _).mono ?_; rintro e w3 ⟨rfl, rfl⟩)
    | (go_at_call 70; refine (cF _ _ (by simp) (by simp)).mono ?_; rintro e w4 ⟨rfl, hk4⟩; have hx4 := ((at_new _ _ _).alloc _).below hk4 ((at_new _ _ _).alloc _).lt; have l4 := hx4.lt; obtain ⟨⟨x0, x1, x2, x3, x4⟩, z0, z1, z2, z3, z4⟩ := box5 hx4)
    | go_in)
  obtain ⟨M, hM⟩ : ∃ M : Nat, m.bn.toNat = M := ⟨_, rfl⟩
  have hbnM : m.bn = M := by omega
  rw [hM] at ho Hev
  have hM1 : 1 ≤ M := by omega
  have hM9 : M ≤ 9 := by omega
  obtain ⟨g, cap, eg, hg0, hg1⟩ := own_some ho (by omega)
  simp only [Value.slice.injEq] at eg
  obtain ⟨rfl, rfl, rfl⟩ := eg
  have ht' : ∀ j : Nat, j < k5 → 1 ≤ m.t (m.bo + j) ∧ m.t (m.bo + j) ≤ 9 := fun j hj => ht j (by omega)
  clear ht
  have hb2 : Below w.heap.size w w2 := hB.trans (hk2.mono (by simp))
  have hbA : Below w2.heap.size w2 w4 := (((Below.refl _ _).alloc (Nat.le_refl _) _).alloc (by simp) _).trans (hk4.mono (by simp; omega))
  have hb4 : Below w.heap.size w w4 := hb2.trans (hbA.mono hb2.size)
  have ho4 := (owns_below ho hbA).alloc (.map #[] 0)
  have hg4 : g < w4.heap.size := by omega
  have hown0 : (w4.alloc (.map #[] 0)).ownsMap prog 3 (plainElem (H := Unit) prog 4) w4.heap.size 0 (mapK m.t m.bo 0) := World.ownsMap_made _ _ _ _
  clear ho hk2 hk4 hbA x0 x1 x2 x3 x4 z0 z1 z2 z3 z4 cM cW cF hM hbnM h1 h9 h0 hs hg1
  go_loopw [10, 31] (fun _ z wr => ∃ j : Nat, j ≤ k5 ∧ z = .int .i64 j ∧ wr.ownsMap prog 3 (plainElem (H := Unit) prog 4) w4.heap.size j (mapK m.t m.bo j) ∧ wr.ownsRow (w.alloc (.cells #[pvv, ev, .bool lx, .slice ad0 n c] 24)).heap.size 3 1 (.slice (some ⟨g, 0, none⟩) k5 c5) k5 (vsOf (intsL m.t m.bo k5)) ∧
    At wr w2.heap.size #[.int .i64 f1, .int .i64 f2, .bool true, .string s, .slice (some ⟨g, 0, none⟩) k5 c5] 27 ∧ Below w.heap.size w wr) (fun _ z _ => k5 - (numOf' z).toNat)
  case atStart => exact ⟨0, Nat.zero_le _, rfl, hown0, ho4, hx4.alloc _, hb4.alloc hb4.size _⟩
  case round =>
    clear hown0 ho4 hx4 hb4
    obtain ⟨j, hj, rfl, hown, ho, hx4, hbel⟩ := hrel
    by_cases hjk : j < k5
    · have hel : wr.cell? ⟨g, j, none⟩ = some (.int .i64 (m.t (m.bo + (j : Int)))) := by
        rw [ho.cellAt j (by omega), vsOf, List.getElem?_map, intsL_get hjk]; rfl
      have hz := ht' j hjk
      clear ht'
      obtain ⟨z, ez⟩ : ∃ z, m.t (m.bo + (j : Int)) = z := ⟨_, rfl⟩
      rw [ez] at hel hz
      have hwf : (Lit.int .i64 z).wf = true := WalkArith.wf_i64 (by omega)
      go_wp2_with (first
        | (at_mapUpdate; refine wpList_mapUpdate_own _ rfl _ _ _ 131 rfl 3 4 (Maps.int_keyed underlying3) underlying131 _ w4.heap.size j _ rfl hown (by unfold maxLen; omega) _ _ _ rfl rfl (Maps.keyOf_int_mk underlying3 hwf) _ [] (plainElem_bool underlying4 true) ?_; intro w5 hown5 hgrow5)
        | go_in)
      have eK : mapK m.t m.bo (j + 1) = (mapK m.t m.bo j).put (.int .i64 z) (.lit (.bool true)) := by rw [mapK, ez]
      have hown' : w5.ownsMap prog 3 (plainElem (H := Unit) prog 4) w4.heap.size (j + 1) (mapK m.t m.bo (j + 1)) := by rw [eK]; exact hown5
      have ho' := ho.kept hgrow5 (.inr (by simp [Value.ownBlock]; omega))
      have hx5 : At w5 w2.heap.size #[.int .i64 f1, .int .i64 f2, .bool true, .string s, .slice (some ⟨g, 0, none⟩) k5 c5] 27 := (hgrow5.block _ hx4.lt (fun e => by have := Option.some.inj e; omega)).trans hx4
      have hbel5 : Below w.heap.size w w5 := hbel.grown hgrow5 hbel.size (fun q hq => by cases hq; have := hb2.size; omega)
      clear hown5 hgrow5 hown ho hx4 eK
      go_roundw
      case rel => exact ⟨j + 1, by omega, by go_num, hown', ho', hx5, hbel5⟩
      case measure => simp [numOf'] <;> omega
    · obtain rfl : j = k5 := by omega
      obtain ⟨⟨x0, x1, x2, x3, x4⟩, z0, z1, z2, z3, z4⟩ := box5 hx4
      have hel : wr.cell? ⟨g, j - 1, none⟩ = some (.int .i64 (m.t (m.bo + ((j - 1 : Nat) : Int)))) := by
        rw [ho.cellAt (j - 1) (by omega), vsOf, List.getElem?_map, intsL_get (by omega)]; rfl
      have hz := ht' (j - 1) (by omega)
      obtain ⟨z, ez⟩ : ∃ z, m.t (m.bo + ((j - 1 : Nat) : Int)) = z := ⟨_, rfl⟩
      rw [ez] at hel hz
      have hwf : (Lit.int .i64 z).wf = true := WalkArith.wf_i64 (by omega)
      have HT : Hid (∀ i : Nat, i < j → 1 ≤ m.t (m.bo + i) ∧ m.t (m.bo + i) ≤ 9) := Lib.hid ht'
      have HZ : Hid (m.t (m.bo + ((j - 1 : Nat) : Int)) = z) := Lib.hid ez
      clear ht' ez hx4 ho
      go_wp2_with (first
        | (at_delete; refine wpList_delete_own _ rfl _ _ 131 3 rfl 4 (Maps.int_keyed underlying3) underlying131 _ w4.heap.size j _ rfl hown _ _ rfl (Maps.keyOf_int_mk underlying3 hwf) ?_; intro w6 hown6 hturn6)
        | (go_at_call 94; refine (keys_w _ _).mono ?_; rintro e w7 ⟨rfl, rfl⟩)
        | (go_at_call 93; refine (sorted_w _ _ _ _ _ hown6 (by have := hown6.size_le; unfold maxLen; omega) (by have := hown6.size_le; omega)).mono ?_; rintro e w8 ⟨v8, ss, rfl, hp8, hrow8, hk8⟩)
        | go_in)
      go_ret2
      have hbel6 : Below w.heap.size w w6 := hbel.grown hturn6.grown hbel.size (fun q hq => by cases hq; have := hb2.size; omega)
      have em : mapD m.t m.bo j = (mapK m.t m.bo j).del (.int .i64 z) := by unfold mapD; rw [HZ.out]
      have ek := keys_asL (o := m.bo) (t := m.t) (Maps.int_keyed underlying3) underlying3 j (em ▸ hown6) HT.out (ss := ss) (em ▸ hp8)
      have hs6 := hbel6.size
      refine ⟨⟨v8, by rw [Hev.out.1]; rfl, ?_⟩, (hbel6.alloc hs6 _).trans (hk8.mono (by omega))⟩
      rw [Hev.out.2, ← ek]
      have := owns_base hrow8 (b2 := w.heap.size) (by omega)
      rw [List.length_mergeSort]
      exact this
end
end Go.Proofs.Tryz
