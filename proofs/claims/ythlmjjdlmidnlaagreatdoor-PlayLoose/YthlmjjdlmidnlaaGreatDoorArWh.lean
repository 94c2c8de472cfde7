/- slices.IndexFunc at moves: whatever the predicate, by the kit's walk. stays of the program, by the kit's walk. The ways of safe moves asked for a letter: IndexFunc and ContainsFunc, by the kit's walk. stays, by the kit's walk. slices.ContainsFunc at moves: whatever the predicate, by the kit's walk. Plain: the canonical form of a loose play, as lists of moves. -/
import Derived.Test.YthlmjjdlmidnlaaGreatDoorArVc
import Derived.Test.YthlmjjdlmidnlaaGreatDoorArWe
import Derived.Lib.SlicesCompact
import Derived.Lib.Strings
namespace Go.Proofs.Tryz
open Go Go.Am Go.RowKit Go.Dr
set_option maxRecDepth 100000

def anyK (p : Nat → Bool) : Nat → Bool
  | 0 => false
  | i + 1 => anyK p i || p i
theorem anyK_mono {p : Nat → Bool} {n i : Nat} (h : i ≤ n) (ha : anyK p i = true) : anyK p n = true := by
  induction n with
  | zero => rw [show i = 0 by omega] at ha; exact ha
  | succ n ih =>
    by_cases e : i = n + 1
    · subst e; exact ha
    · rw [anyK, ih (by omega)]; rfl
/-- What IndexFunc answers: a place, if there is one. -/
def IdxA (p : Nat → Bool) (n : Nat) (e : Ending) : Prop := (anyK p n = true ∧ ∃ i : Nat, e = .returned (.int .i64 i)) ∨ (anyK p n = false ∧ e = .returned (.int .i64 (-1)))

theorem idx138_w {w : World} {n c b off : Nat} {cs : Nat → List Value} {p : Nat → Bool} (hn : n ≤ 1000000) (hc : ∀ i, i < n → ∃ f1 f2 xb s a m k, cs i = [.int .i64 f1, .int .i64 f2, .bool xb, .string s, .slice a m k] ∧ cellsAt w b (off + 5 * i) 5 = (cs i).map some)
    (hp : ∀ i, i < n → ∀ W, Below w.heap.size w W → Calls prog 138 #[.agg (cs i).toArray] W fun e w' => e = .returned (.bool (p i)) ∧ Below W.heap.size W w') :
    Calls prog 163 #[.slice (some ⟨b, off, none⟩) n c, .func (.func 138) #[] #[]] w fun e w' => IdxA p n e ∧ Below w.heap.size w w' := by
  go_enter func163, ntmps163
  go_wp2
  go_loopw [5, 8] (fun _ s wr => ∃ (i : Nat), i ≤ n ∧ s = .int .i64 i ∧ anyK p i = false ∧ Below w.heap.size w wr) (fun _ s _ => n - (numOf' s).toNat)
  case atStart => exact ⟨0, Nat.zero_le _, rfl, rfl, Below.refl _ _⟩
  case round =>
    obtain ⟨i, hi', rfl, hno, hbel⟩ := hrel
    by_cases hin : i < n
    · obtain ⟨f1, f2, xb, s, a, m, k, e5, hcell⟩ := hc i hin
      have hp1 := hp i hin
      rw [e5] at hp1 hcell
      clear hc hp
      have e0 : off + 5 * i = off + i * 5 := by omega
      simp only [cellsAt, List.map_cons, List.map_nil, List.cons.injEq, and_true, e0] at hcell
      obtain ⟨q0, q1, q2, q3, q4⟩ := hcell
      have p0 : wr.cell? ⟨b, off + i * 5, none⟩ = some (.int .i64 f1) := (hbel.cell (cell_under q0)).trans q0
      have p1 : wr.cell? ⟨b, off + i * 5 + 1, none⟩ = some (.int .i64 f2) := (hbel.cell (cell_under q1)).trans q1
      have p2 : wr.cell? ⟨b, off + i * 5 + 2, none⟩ = some (.bool xb) := (hbel.cell (cell_under q2)).trans q2
      have p3 : wr.cell? ⟨b, off + i * 5 + 3, none⟩ = some (.string s) := (hbel.cell (cell_under q3)).trans q3
      have p4 : wr.cell? ⟨b, off + i * 5 + 4, none⟩ = some (.slice a m k) := (hbel.cell (cell_under q4)).trans q4
      clear q0 q1 q2 q3 q4
      have cP := hp1 _ hbel
      clear hp1
      cases hpi : p i with
      | false =>
        rw [hpi] at cP
        have hno' : anyK p (i + 1) = false := by rw [anyK, hno, hpi]; rfl
        go_wp2_with (first
          | (go_at_call 138; refine cP.mono ?_; rintro e w2 ⟨rfl, hk2⟩)
          | go_in)
        have hb2 := hbel.trans (hk2.mono hbel.size)
        clear cP hk2 p0 p1 p2 p3 p4 hno
        go_roundw
        case rel => exact ⟨i + 1, by omega, by go_num, hno', hb2⟩
        case measure => simp [numOf'] <;> omega
      | true =>
        rw [hpi] at cP
        have hyes : anyK p n = true := anyK_mono (i := i + 1) (by omega) (by rw [anyK, hpi, Bool.or_true])
        go_wp2_with (first
          | (go_at_call 138; refine cP.mono ?_; rintro e w2 ⟨rfl, hk2⟩)
          | go_in)
        go_ret
        exact ⟨.inl ⟨hyes, i, rfl⟩, hbel.trans (hk2.mono hbel.size)⟩
    · obtain rfl : i = n := by omega
      clear hc hp
      go_wp2
      go_ret
      exact ⟨.inr ⟨hno, rfl⟩, hbel⟩
theorem idx138_0 (ad : Option Addr) (c : Nat) (w : World) : Calls prog 163 #[.slice ad 0 c, .func (.func 138) #[] #[]] w fun e w' => e = .returned (.int .i64 (-1)) ∧ Below w.heap.size w w' := by
  go_enter func163, ntmps163
  go_wp2
  refine wp_loop_rounds 1 ?_
  rw [rounds_succ]
  go_wp2
  go_ret
  exact ⟨rfl, Below.refl _ _⟩
theorem idx100_w {w : World} {n c b off : Nat} {cs : Nat → List Value} {p : Nat → Bool} (hn : n ≤ 1000000) (hc : ∀ i, i < n → ∃ f1 f2 xb s a m k, cs i = [.int .i64 f1, .int .i64 f2, .bool xb, .string s, .slice a m k] ∧ cellsAt w b (off + 5 * i) 5 = (cs i).map some)
    (hp : ∀ i, i < n → ∀ W, Below w.heap.size w W → Calls prog 100 #[.agg (cs i).toArray] W fun e w' => e = .returned (.bool (p i)) ∧ Below W.heap.size W w') :
    Calls prog 163 #[.slice (some ⟨b, off, none⟩) n c, .func (.func 100) #[] #[]] w fun e w' => IdxA p n e ∧ Below w.heap.size w w' := by
  go_enter func163, ntmps163
  go_wp2
  go_loopw [5, 8] (fun _ s wr => ∃ (i : Nat), i ≤ n ∧ s = .int .i64 i ∧ anyK p i = false ∧ Below w.heap.size w wr) (fun _ s _ => n - (numOf' s).toNat)
  case atStart => exact ⟨0, Nat.zero_le _, rfl, rfl, Below.refl _ _⟩
  case round =>
    obtain ⟨i, hi', rfl, hno, hbel⟩ := hrel
    by_cases hin : i < n
    · obtain ⟨f1, f2, xb, s, a, m, k, e5, hcell⟩ := hc i hin
      have hp1 := hp i hin
      rw [e5] at hp1 hcell
      clear hc hp
      have e0 : off + 5 * i = off + i * 5 := by omega
      simp only [cellsAt, List.map_cons, List.map_nil, List.cons.injEq, and_true, e0] at hcell
      obtain ⟨q0, q1, q2, q3, q4⟩ := hcell
      have p0 : wr.cell? ⟨b, off + i * 5, none⟩ = some (.int .i64 f1) := (hbel.cell (cell_under q0)).trans q0
      have p1 : wr.cell? ⟨b, off + i * 5 + 1, none⟩ = some (.int .i64 f2) := (hbel.cell (cell_under q1)).trans q1
      have p2 : wr.cell? ⟨b, off + i * 5 + 2, none⟩ = some (.bool xb) := (hbel.cell (cell_under q2)).trans q2
      have p3 : wr.cell? ⟨b, off + i * 5 + 3, none⟩ = some (.string s) := (hbel.cell (cell_under q3)).trans q3
      have p4 : wr.cell? ⟨b, off + i * 5 + 4, none⟩ = some (.slice a m k) := (hbel.cell (cell_under q4)).trans q4
      clear q0 q1 q2 q3 q4
      have cP := hp1 _ hbel
      clear hp1
      cases hpi : p i with
      | false =>
        rw [hpi] at cP
        have hno' : anyK p (i + 1) = false := by rw [anyK, hno, hpi]; rfl
        go_wp2_with (first
          | (go_at_call 100; refine cP.mono ?_; rintro e w2 ⟨rfl, hk2⟩)
          | go_in)
        have hb2 := hbel.trans (hk2.mono hbel.size)
        clear cP hk2 p0 p1 p2 p3 p4 hno
        go_roundw
        case rel => exact ⟨i + 1, by omega, by go_num, hno', hb2⟩
        case measure => simp [numOf'] <;> omega
      | true =>
        rw [hpi] at cP
        have hyes : anyK p n = true := anyK_mono (i := i + 1) (by omega) (by rw [anyK, hpi, Bool.or_true])
        go_wp2_with (first
          | (go_at_call 100; refine cP.mono ?_; rintro e w2 ⟨rfl, hk2⟩)
          | go_in)
        go_ret
        exact ⟨.inl ⟨hyes, i, rfl⟩, hbel.trans (hk2.mono hbel.size)⟩
    · obtain rfl : i = n := by omega
      clear hc hp
      go_wp2
      go_ret
      exact ⟨.inr ⟨hno, rfl⟩, hbel⟩
theorem idx100_0 (ad : Option Addr) (c : Nat) (w : World) : Calls prog 163 #[.slice ad 0 c, .func (.func 100) #[] #[]] w fun e w' => e = .returned (.int .i64 (-1)) ∧ Below w.heap.size w w' := by
  go_enter func163, ntmps163
  go_wp2
  refine wp_loop_rounds 1 ?_
  rw [rounds_succ]
  go_wp2
  go_ret
  exact ⟨rfl, Below.refl _ _⟩
theorem idx144_w {w : World} {n c b off : Nat} {cs : Nat → List Value} {p : Nat → Bool} (hn : n ≤ 1000000) (hc : ∀ i, i < n → ∃ f1 f2 xb s a m k, cs i = [.int .i64 f1, .int .i64 f2, .bool xb, .string s, .slice a m k] ∧ cellsAt w b (off + 5 * i) 5 = (cs i).map some)
    (hp : ∀ i, i < n → ∀ W, Below w.heap.size w W → Calls prog 144 #[.agg (cs i).toArray] W fun e w' => e = .returned (.bool (p i)) ∧ Below W.heap.size W w') :
    Calls prog 163 #[.slice (some ⟨b, off, none⟩) n c, .func (.func 144) #[] #[]] w fun e w' => IdxA p n e ∧ Below w.heap.size w w' := by
  go_enter func163, ntmps163
  go_wp2
  go_loopw [5, 8] (fun _ s wr => ∃ (i : Nat), i ≤ n ∧ s = .int .i64 i ∧ anyK p i = false ∧ Below w.heap.size w wr) (fun _ s _ => n - (numOf' s).toNat)
  case atStart => exact ⟨0, Nat.zero_le _, rfl, rfl, Below.refl _ _⟩
  case round =>
    obtain ⟨i, hi', rfl, hno, hbel⟩ := hrel
    by_cases hin : i < n
    · obtain ⟨f1, f2, xb, s, a, m, k, e5, hcell⟩ := hc i hin
      have hp1 := hp i hin
      rw [e5] at hp1 hcell
      clear hc hp
      have e0 : off + 5 * i = off + i * 5 := by omega
      simp only [cellsAt, List.map_cons, List.map_nil, List.cons.injEq, and_true, e0] at hcell
      obtain ⟨q0, q1, q2, q3, q4⟩ := hcell
      have p0 : wr.cell? ⟨b, off + i * 5, none⟩ = some (.int .i64 f1) := (hbel.cell (cell_under q0)).trans q0
      have p1 : wr.cell? ⟨b, off + i * 5 + 1, none⟩ = some (.int .i64 f2) := (hbel.cell (cell_under q1)).trans q1
      have p2 : wr.cell? ⟨b, off + i * 5 + 2, none⟩ = some (.bool xb) := (hbel.cell (cell_under q2)).trans q2
      have p3 : wr.cell? ⟨b, off + i * 5 + 3, none⟩ = some (.string s) := (hbel.cell (cell_under q3)).trans q3
      have p4 : wr.cell? ⟨b, off + i * 5 + 4, none⟩ = some (.slice a m k) := (hbel.cell (cell_under q4)).trans q4
      clear q0 q1 q2 q3 q4
      have cP := hp1 _ hbel
      clear hp1
      cases hpi : p i with
      | false =>
        rw [hpi] at cP
        have hno' : anyK p (i + 1) = false := by rw [anyK, hno, hpi]; rfl
        go_wp2_with (first
          | (go_at_call 144; refine cP.mono ?_; rintro e w2 ⟨rfl, hk2⟩)
          | go_in)
        have hb2 := hbel.trans (hk2.mono hbel.size)
        clear cP hk2 p0 p1 p2 p3 p4 hno
        go_roundw
        case rel => exact ⟨i + 1, by omega, by go_num, hno', hb2⟩
        case measure => simp [numOf'] <;> omega
      | true =>
        rw [hpi] at cP
        have hyes : anyK p n = true := anyK_mono (i := i + 1) (by omega) (by rw [anyK, hpi, Bool.or_true])
        go_wp2_with (first
          | (go_at_call 144; refine cP.mono ?_; rintro e w2 ⟨rfl, hk2⟩)
          | go_in)
        go_ret
        exact ⟨.inl ⟨hyes, i, rfl⟩, hbel.trans (hk2.mono hbel.size)⟩
    · obtain rfl : i = n := by omega
      clear hc hp
      go_wp2
      go_ret
      exact ⟨.inr ⟨hno, rfl⟩, hbel⟩
theorem idx144_0 (ad : Option Addr) (c : Nat) (w : World) : Calls prog 163 #[.slice ad 0 c, .func (.func 144) #[] #[]] w fun e w' => e = .returned (.int .i64 (-1)) ∧ Below w.heap.size w w' := by
  go_enter func163, ntmps163
  go_wp2
  refine wp_loop_rounds 1 ?_
  rw [rounds_succ]
  go_wp2
  go_ret
  exact ⟨rfl, Below.refl _ _⟩
end Go.Proofs.Tryz

namespace Go.Proofs.Tryz
open Go Go.Am Go.RowKit Go.Dr
set_option maxRecDepth 100000

theorem way166 (l : Int) (b : Nat) (s : ByteArray) (v0 v1 v2 v4 : Value) (x1 x2 x3 : Int) (w : World) (hb : At w b #[v0, v1, v2, .string s, v4] 27) :
    Calls prog 166 #[.agg #[.int .u8 l, .int .i64 x1, .int .i64 x2, .int .i64 x3], .pointer (some ⟨b, 0, none⟩)] w fun e w' => e = .returned (.bool (s.toList == (Utf8.encode l).toList)) ∧ Below w.heap.size w w' := by
  obtain ⟨⟨y0, y1, y2, y3, y4⟩, -⟩ := box5 hb
  have lb := hb.lt
  go_enter func166, ntmps166
  go_wp2
  go_ret
  exact ⟨rfl, (Below.refl _ _).alloc (Nat.le_refl _) _⟩
end Go.Proofs.Tryz

namespace Go.Proofs.Tryz
open Go Go.Am Go.RowKit Go.Dr
set_option maxRecDepth 100000

/-- The letters of the safe ways but the first. -/
def letL : List Int := [97, 115, 112, 107, 116, 111]
def isLet (s : ByteArray) (l : Int) : Bool := s.toList == (Utf8.encode l).toList
/-- The six ways behind the first one. -/
def wyL : List (Int × Int × Int × Int) := [(97, 4, 1, 4), (115, -1, 1, 4), (112, 4, 1, 4), (107, -1, 1, 4), (116, 4, 1, 4), (111, 4, 1, 4)]
theorem wy_cells {w : World} (hL : Laid w) {i : Nat} {q : Int × Int × Int × Int} (hq : wyL[i]? = some q) : w.cell? ⟨1, 4 + i * 4, none⟩ = some (.int .u8 q.1) ∧ w.cell? ⟨1, 4 + i * 4 + 1, none⟩ = some (.int .i64 q.2.1) ∧ w.cell? ⟨1, 4 + i * 4 + 2, none⟩ = some (.int .i64 q.2.2.1) ∧ w.cell? ⟨1, 4 + i * 4 + 3, none⟩ = some (.int .i64 q.2.2.2) := by
  have hi := (List.getElem?_eq_some_iff.1 hq).1
  have hi' : i = 0 ∨ i = 1 ∨ i = 2 ∨ i = 3 ∨ i = 4 ∨ i = 5 := by simp [wyL] at hi; omega
  rcases hi' with rfl | rfl | rfl | rfl | rfl | rfl <;> (simp [wyL] at hq; subst hq; exact ⟨hL 1 _ _ rfl, hL 1 _ _ rfl, hL 1 _ _ rfl, hL 1 _ _ rfl⟩)
def letK (s : ByteArray) : Nat → Bool
  | 0 => false
  | i + 1 => letK s i || isLet s ((wyL[i]?.map (·.1)).getD 0)
theorem letK_mono {s : ByteArray} {n i : Nat} (h : i ≤ n) (ha : letK s i = true) : letK s n = true := by
  induction n with
  | zero => rw [show i = 0 by omega] at ha; exact ha
  | succ n ih =>
    by_cases e : i = n + 1
    · subst e; exact ha
    · rw [letK, ih (by omega)]; rfl
def WayA (s : ByteArray) (e : Ending) : Prop := (letK s 6 = true ∧ ∃ i : Nat, e = .returned (.int .i64 i)) ∨ (letK s 6 = false ∧ e = .returned (.int .i64 (-1)))
theorem ways_w (b : Nat) (s : ByteArray) (v0 v1 v2 v4 : Value) (w : World) (hL : Laid w) (hb : At w b #[v0, v1, v2, .string s, v4] 27) :
    Calls prog 78 #[.slice (some ⟨1, 4, none⟩) 6 6, .func (.func 166) #[] #[.pointer (some ⟨b, 0, none⟩)]] w fun e w' => WayA s e ∧ Below w.heap.size w w' := by
  go_enter func78, ntmps78
  go_wp2
  go_loopw [5, 8] (fun _ z wr => ∃ (i : Nat), i ≤ 6 ∧ z = .int .i64 i ∧ letK s i = false ∧ Below w.heap.size w wr) (fun _ z _ => 6 - (numOf' z).toNat)
  case atStart => exact ⟨0, Nat.zero_le _, rfl, rfl, Below.refl _ _⟩
  case round =>
    obtain ⟨i, hi, rfl, hno, hbel⟩ := hrel
    by_cases hin : i < 6
    · obtain ⟨⟨l, x1, x2, x3⟩, hq⟩ : ∃ q, wyL[i]? = some q := ⟨_, List.getElem?_eq_getElem (by simpa [wyL] using hin)⟩
      obtain ⟨p0, p1, p2, p3⟩ := wy_cells (hL.below hbel) hq
      have cW := way166 l b s v0 v1 v2 v4 x1 x2 x3 wr (hb.below hbel hb.lt)
      have eK : letK s (i + 1) = (letK s i || isLet s l) := by rw [letK, hq]; rfl
      rw [hno, Bool.false_or] at eK
      cases hl : isLet s l with
      | false =>
        unfold isLet at hl
        rw [hl] at cW
        have hno' : letK s (i + 1) = false := by rw [eK]; exact hl
        clear eK hno hl hq
        go_wp2_with fail
        go_at_call 166
        refine cW.mono ?_
        rintro e w2 ⟨rfl, hk2⟩
        have hb2 := hbel.trans (hk2.mono hbel.size)
        clear cW hk2 p0 p1 p2 p3
        go_wp2
        go_roundw
        case rel => exact ⟨i + 1, by omega, by go_num, hno', hb2⟩
        case measure => simp [numOf'] <;> omega
      | true =>
        unfold isLet at hl
        rw [hl] at cW
        have hyes : letK s 6 = true := letK_mono (i := i + 1) (by omega) (by rw [eK]; exact hl)
        clear eK hno hl hq
        go_wp2_with fail
        go_at_call 166
        refine cW.mono ?_
        rintro e w2 ⟨rfl, hk2⟩
        go_wp2
        go_ret
        exact ⟨.inl ⟨hyes, i, rfl⟩, hbel.trans (hk2.mono hbel.size)⟩
    · obtain rfl : i = 6 := by omega
      go_wp2
      go_ret
      exact ⟨.inr ⟨hno, rfl⟩, hbel⟩
end Go.Proofs.Tryz

namespace Go.Proofs.Tryz
open Go Go.Am Go.RowKit Go.Dr
set_option maxRecDepth 100000

theorem waysC_w (b : Nat) (s : ByteArray) (v0 v1 v2 v4 : Value) (w : World) (hL : Laid w) (hb : At w b #[v0, v1, v2, .string s, v4] 27) :
    Calls prog 165 #[.slice (some ⟨1, 4, none⟩) 6 6, .func (.func 166) #[] #[.pointer (some ⟨b, 0, none⟩)]] w fun e w' => e = .returned (.bool (letK s 6)) ∧ Below w.heap.size w w' := by
  have cW := ways_w b s v0 v1 v2 v4 w hL hb
  cases hk : letK s 6 with
  | true =>
    go_enter func165, ntmps165
    go_wp2_with fail
    go_at_call 78
    refine cW.mono ?_
    rintro e w2 ⟨hA, hB⟩
    rcases hA with ⟨-, i, rfl⟩ | ⟨h, -⟩
    · have h0 : (0 : Int) ≤ (i : Int) := by omega
      go_wp2
      go_ret
      exact ⟨rfl, hB⟩
    · rw [hk] at h; cases h
  | false =>
    go_enter func165, ntmps165
    go_wp2_with fail
    go_at_call 78
    refine cW.mono ?_
    rintro e w2 ⟨hA, hB⟩
    rcases hA with ⟨h, -⟩ | ⟨-, rfl⟩
    · rw [hk] at h; cases h
    · go_wp2
      go_ret
      exact ⟨rfl, hB⟩

/-- Whether a move stays. -/
def stayB (m : M5) : Bool := !m.xb && decide (m.f1 = m.f2) && decide (1 ≤ m.f1) && decide (m.f1 ≤ 3) && letK m.s 6
theorem stays_w (m : M5) (w : World) (hL : Laid w) : Calls prog 143 #[.agg #[.int .i64 m.f1, .int .i64 m.f2, .bool m.xb, .string m.s, .slice m.a m.k m.c]] w fun e w' => e = .returned (.bool (stayB m)) ∧ Below w.heap.size w w' := by
  have hmf : ∀ (fn : Fn) (first cap : Array Value) (w : World), (Instr.makeFunc fn first cap).run prog w = .ok (.func fn first cap) w := fun _ _ _ _ => rfl
  obtain ⟨f1, f2, xb, s, a, k, c⟩ := m
  have hB : Below w.heap.size w (w.alloc (.cells #[.int .i64 f1, .int .i64 f2, .bool xb, .string s, .slice a k c] 27)) := (Below.refl _ _).alloc (Nat.le_refl _) _
  have cW := waysC_w w.heap.size s (.int .i64 f1) (.int .i64 f2) (.bool xb) (.slice a k c) _ (hL.below hB) (at_new w #[.int .i64 f1, .int .i64 f2, .bool xb, .string s, .slice a k c] 27)
  unfold stayB
  dsimp only
  obtain ⟨kn, hkn⟩ : ∃ kn, letK s 6 = kn := ⟨_, rfl⟩
  rw [hkn] at cW ⊢
  clear hkn
  go_enter func143, ntmps143
  go_wp2_with fail
  go_at_call 165
  refine cW.mono ?_
  rintro e w2 ⟨rfl, hk2⟩
  have hx2 := (at_new _ _ _).below hk2 (at_new _ _ _).lt
  obtain ⟨⟨y0, y1, y2, y3, y4⟩, -⟩ := box5 hx2
  have hb2 := hB.trans (hk2.mono (by simp))
  clear cW hmf
  cases xb with
  | true =>
    go_wp2
    go_ret
    exact ⟨rfl, hb2⟩
  | false =>
    by_cases h1 : f1 = f2
    · subst h1
      by_cases h2 : 1 ≤ f1
      · by_cases h3 : f1 ≤ 3
        · go_wp2
          go_ret
          exact ⟨by first | rfl | simp, hb2⟩
        · go_wp2
          go_ret
          exact ⟨by simp; intros; omega, hb2⟩
      · go_wp2
        go_ret
        exact ⟨by simp; intros; omega, hb2⟩
    · go_wp2
      go_ret
      exact ⟨by simp [h1], hb2⟩
end Go.Proofs.Tryz

namespace Go.Proofs.Tryz
open Go Go.Am Go.RowKit Go.Dr
set_option maxRecDepth 100000

theorem any138_w {w : World} {n c b off : Nat} {cs : Nat → List Value} {p : Nat → Bool} (hn : n ≤ 1000000) (hc : ∀ i, i < n → ∃ f1 f2 xb s a m k, cs i = [.int .i64 f1, .int .i64 f2, .bool xb, .string s, .slice a m k] ∧ cellsAt w b (off + 5 * i) 5 = (cs i).map some)
    (hp : ∀ i, i < n → ∀ W, Below w.heap.size w W → Calls prog 138 #[.agg (cs i).toArray] W fun e w' => e = .returned (.bool (p i)) ∧ Below W.heap.size W w') :
    Calls prog 137 #[.slice (some ⟨b, off, none⟩) n c, .func (.func 138) #[] #[]] w fun e w' => e = .returned (.bool (anyK p n)) ∧ Below w.heap.size w w' := by
  have cI := idx138_w (c := c) hn hc hp
  clear hc hp
  cases hk : anyK p n with
  | true =>
    go_enter func137, ntmps137
    go_wp2_with fail
    go_at_call 163
    refine cI.mono ?_
    rintro e w2 ⟨hA, hB⟩
    rcases hA with ⟨-, i, rfl⟩ | ⟨h, -⟩
    · have h0 : (0 : Int) ≤ (i : Int) := by omega
      go_wp2
      go_ret
      exact ⟨rfl, hB⟩
    · rw [hk] at h; cases h
  | false =>
    go_enter func137, ntmps137
    go_wp2_with fail
    go_at_call 163
    refine cI.mono ?_
    rintro e w2 ⟨hA, hB⟩
    rcases hA with ⟨h, -⟩ | ⟨-, rfl⟩
    · rw [hk] at h; cases h
    · go_wp2
      go_ret
      exact ⟨rfl, hB⟩
theorem any138_0 (ad : Option Addr) (c : Nat) (w : World) : Calls prog 137 #[.slice ad 0 c, .func (.func 138) #[] #[]] w fun e w' => e = .returned (.bool false) ∧ Below w.heap.size w w' := by
  have cI := idx138_0 ad c w
  go_enter func137, ntmps137
  go_wp2_with fail
  go_at_call 163
  refine cI.mono ?_
  rintro e w2 ⟨rfl, hB⟩
  go_wp2
  go_ret
  exact ⟨rfl, hB⟩
theorem any100_w {w : World} {n c b off : Nat} {cs : Nat → List Value} {p : Nat → Bool} (hn : n ≤ 1000000) (hc : ∀ i, i < n → ∃ f1 f2 xb s a m k, cs i = [.int .i64 f1, .int .i64 f2, .bool xb, .string s, .slice a m k] ∧ cellsAt w b (off + 5 * i) 5 = (cs i).map some)
    (hp : ∀ i, i < n → ∀ W, Below w.heap.size w W → Calls prog 100 #[.agg (cs i).toArray] W fun e w' => e = .returned (.bool (p i)) ∧ Below W.heap.size W w') :
    Calls prog 137 #[.slice (some ⟨b, off, none⟩) n c, .func (.func 100) #[] #[]] w fun e w' => e = .returned (.bool (anyK p n)) ∧ Below w.heap.size w w' := by
  have cI := idx100_w (c := c) hn hc hp
  clear hc hp
  cases hk : anyK p n with
  | true =>
    go_enter func137, ntmps137
    go_wp2_with fail
    go_at_call 163
    refine cI.mono ?_
    rintro e w2 ⟨hA, hB⟩
    rcases hA with ⟨-, i, rfl⟩ | ⟨h, -⟩
    · have h0 : (0 : Int) ≤ (i : Int) := by omega
      go_wp2
      go_ret
      exact ⟨rfl, hB⟩
    · rw [hk] at h; cases h
  | false =>
    go_enter func137, ntmps137
    go_wp2_with fail
    go_at_call 163
    refine cI.mono ?_
    rintro e w2 ⟨hA, hB⟩
    rcases hA with ⟨h, -⟩ | ⟨-, rfl⟩
    · rw [hk] at h; cases h
    · go_wp2
      go_ret
      exact ⟨rfl, hB⟩
theorem any100_0 (ad : Option Addr) (c : Nat) (w : World) : Calls prog 137 #[.slice ad 0 c, .func (.func 100) #[] #[]] w fun e w' => e = .returned (.bool false) ∧ Below w.heap.size w w' := by
  have cI := idx100_0 ad c w
  go_enter func137, ntmps137
  go_wp2_with fail
  go_at_call 163
  refine cI.mono ?_
  rintro e w2 ⟨rfl, hB⟩
  go_wp2
  go_ret
  exact ⟨rfl, hB⟩
theorem any144_w {w : World} {n c b off : Nat} {cs : Nat → List Value} {p : Nat → Bool} (hn : n ≤ 1000000) (hc : ∀ i, i < n → ∃ f1 f2 xb s a m k, cs i = [.int .i64 f1, .int .i64 f2, .bool xb, .string s, .slice a m k] ∧ cellsAt w b (off + 5 * i) 5 = (cs i).map some)
    (hp : ∀ i, i < n → ∀ W, Below w.heap.size w W → Calls prog 144 #[.agg (cs i).toArray] W fun e w' => e = .returned (.bool (p i)) ∧ Below W.heap.size W w') :
    Calls prog 137 #[.slice (some ⟨b, off, none⟩) n c, .func (.func 144) #[] #[]] w fun e w' => e = .returned (.bool (anyK p n)) ∧ Below w.heap.size w w' := by
  have cI := idx144_w (c := c) hn hc hp
  clear hc hp
  cases hk : anyK p n with
  | true =>
    go_enter func137, ntmps137
    go_wp2_with fail
    go_at_call 163
    refine cI.mono ?_
    rintro e w2 ⟨hA, hB⟩
    rcases hA with ⟨-, i, rfl⟩ | ⟨h, -⟩
    · have h0 : (0 : Int) ≤ (i : Int) := by omega
      go_wp2
      go_ret
      exact ⟨rfl, hB⟩
    · rw [hk] at h; cases h
  | false =>
    go_enter func137, ntmps137
    go_wp2_with fail
    go_at_call 163
    refine cI.mono ?_
    rintro e w2 ⟨hA, hB⟩
    rcases hA with ⟨h, -⟩ | ⟨-, rfl⟩
    · rw [hk] at h; cases h
    · go_wp2
      go_ret
      exact ⟨rfl, hB⟩
theorem any144_0 (ad : Option Addr) (c : Nat) (w : World) : Calls prog 137 #[.slice ad 0 c, .func (.func 144) #[] #[]] w fun e w' => e = .returned (.bool false) ∧ Below w.heap.size w w' := by
  have cI := idx144_0 ad c w
  go_enter func137, ntmps137
  go_wp2_with fail
  go_at_call 163
  refine cI.mono ?_
  rintro e w2 ⟨rfl, hB⟩
  go_wp2
  go_ret
  exact ⟨rfl, hB⟩
end Go.Proofs.Tryz

namespace Go.Proofs.Tryz
open Go Go.Am Go.RowKit Go.Dr
set_option maxRecDepth 100000

theorem perm_map_inv {α β : Type} {f : α → β} {l m : List β} (h : l.Perm m) : ∀ xs : List α, m = xs.map f → ∃ ys : List α, ys.Perm xs ∧ l = ys.map f := by
  induction h with
  | nil => intro xs e; cases xs with
    | nil => exact ⟨[], .nil, rfl⟩
    | cons => simp at e
  | cons x h ih =>
    intro xs e
    cases xs with
    | nil => simp at e
    | cons a xs =>
      simp only [List.map_cons, List.cons.injEq] at e
      obtain ⟨ys, hp, e2⟩ := ih xs e.2
      exact ⟨a :: ys, hp.cons a, by rw [List.map_cons, ← e2, ← e.1]⟩
  | swap x y l =>
    intro xs e
    match xs, e with
    | [], e => simp at e
    | [a], e => simp at e
    | a :: b :: xs, e =>
      simp only [List.map_cons, List.cons.injEq] at e
      obtain ⟨rfl, rfl, rfl⟩ := e
      exact ⟨b :: a :: xs, .swap _ _ _, rfl⟩
  | trans h1 h2 ih1 ih2 =>
    intro xs e
    obtain ⟨ks, hk, e2⟩ := ih2 xs e
    obtain ⟨ys, hy, e1⟩ := ih1 ks e2
    exact ⟨ys, hy.trans hk, e1⟩

/-! ### the touches -/
/-- The touches of a move. -/
def tchs (m : MvD) : List Int := intsL m.t m.bo m.bn.toNat
/-- The touches without neighbours that are the same. -/
def plT (m : MvD) : List Int := Lib.compact (tchs m)
/-- The move with plain touches. -/
def plainM (m : MvD) : MvD := { m with t := tl (plT m), bo := 0, bn := ((plT m).length : Nat) }
theorem intsL_tl (l : List Int) : intsL (tl l) 0 l.length = l := by
  apply List.ext_getElem?
  intro j
  by_cases hj : j < l.length
  · rw [intsL_get hj]
    simp [tl, hj]
  · rw [List.getElem?_eq_none (by rw [length_intsL]; omega), List.getElem?_eq_none (by omega)]
theorem tchs_plainM (m : MvD) : tchs (plainM m) = plT m := by
  unfold tchs plainM
  simp only [Int.toNat_natCast]
  exact intsL_tl _
theorem length_compact_le (zs : List Int) : (Lib.compact zs).length ≤ zs.length := by
  unfold Lib.compact Lib.compactUpTo
  rw [List.length_map]
  exact Nat.le_trans (List.length_filter_le _ _) (by simp)
theorem plT_le (m : MvD) : (plT m).length ≤ m.bn.toNat := Nat.le_trans (length_compact_le _) (by rw [tchs, length_intsL]; exact Nat.le_refl _)

/-! ### who stays -/
def stayD (m : MvD) : Bool := decide (m.x = 0) && decide (m.fr = m.to) && decide (1 ≤ m.fr) && decide (m.fr ≤ 3) && decide (m.sn = 1 ∧ m.y (m.so + 0) ∈ letL)
theorem stayD_plain (m : MvD) : stayD (plainM m) = stayD m := rfl
theorem enc_small : ∀ k : Nat, k < 128 → (Utf8.encode (k : Int)).data.toList = [UInt8.ofNat k] := by decide
theorem isLet_iff {s : ByteArray} {y : Int → Int} {so sn l : Int} (h : IsStr (.string s) y so sn) (hl : 0 ≤ l ∧ l < 128) : isLet s l = decide (sn = 1 ∧ y (so + 0) = l) := by
  obtain ⟨b, e, h1, h2⟩ := h
  cases e
  have he : (Utf8.encode l).toList = [UInt8.ofNat l.toNat] := by
    obtain ⟨k, rfl⟩ : ∃ k : Nat, l = k := ⟨l.toNat, by omega⟩
    have hk : k < 128 := by omega
    rw [Lib.toList_data, Int.toNat_natCast]
    exact enc_small k hk
  unfold isLet
  rw [he, Lib.toList_data]
  have : (b.toArray.toList == [UInt8.ofNat l.toNat]) = decide (sn = 1 ∧ y (so + 0) = l) := by
    rw [Bool.eq_iff_iff]
    simp only [beq_iff_eq, decide_eq_true_eq]
    constructor
    · intro hb
      have hb : b = [UInt8.ofNat l.toNat] := hb
      subst hb
      have := h2 0 _ rfl
      simp only [List.length_cons, List.length_nil] at h1
      refine ⟨by omega, ?_⟩
      have e0 : ((0 : Nat) : Int) = 0 := rfl
      rw [e0] at this
      rw [← this, UInt8.toNat_ofNat']
      omega
    · rintro ⟨hs, hy⟩
      match b, h1, h2 with
      | [], h1, h2 => simp at h1; omega
      | [c], h1, h2 =>
        have := h2 0 c rfl
        have e0 : ((0 : Nat) : Int) = 0 := rfl
        rw [e0, hy] at this
        have : c = UInt8.ofNat l.toNat := by
          apply UInt8.toNat.inj
          rw [UInt8.toNat_ofNat']
          omega
        rw [this]
      | c :: c2 :: r, h1, h2 => simp only [List.length_cons] at h1; omega
  exact this
theorem letK_iff {s : ByteArray} {y : Int → Int} {so sn : Int} (h : IsStr (.string s) y so sn) : letK s 6 = decide (sn = 1 ∧ y (so + 0) ∈ letL) := by
  have e : letK s 6 = (((((((false || isLet s 97) || isLet s 115) || isLet s 112) || isLet s 107) || isLet s 116) || isLet s 111)) := rfl
  rw [e, isLet_iff h (by decide), isLet_iff h (by decide), isLet_iff h (by decide), isLet_iff h (by decide), isLet_iff h (by decide), isLet_iff h (by decide), Bool.eq_iff_iff]
  simp only [Bool.or_eq_true, decide_eq_true_eq, letL, List.mem_cons, List.not_mem_nil, or_false, Bool.false_eq_true, false_or]
  generalize y (so + 0) = z
  constructor
  · rintro (((((⟨h1, h2⟩ | ⟨h1, h2⟩) | ⟨h1, h2⟩) | ⟨h1, h2⟩) | ⟨h1, h2⟩) | ⟨h1, h2⟩) <;> exact ⟨h1, by simp [h2]⟩
  · rintro ⟨h1, (h2 | h2 | h2 | h2 | h2 | h2)⟩ <;> simp [h1, h2]

/-! ### moves in cells and as data -/
/-- A move's cells hold it; its touches lie somewhere. -/
def M5Ok (w : World) (c : M5) (m : MvD) : Prop := c.f1 = m.fr ∧ c.f2 = m.to ∧ c.xb = decide (m.x ≠ 0) ∧ IsStr (.string c.s) m.y m.so m.sn ∧ IsInts w (.slice c.a c.k c.c) m.t m.bo m.bn
/-- The same, its touches in a row of the call's own. -/
def M5Own (w : World) (base : Nat) (c : M5) (m : MvD) : Prop := c.f1 = m.fr ∧ c.f2 = m.to ∧ c.xb = decide (m.x ≠ 0) ∧ IsStr (.string c.s) m.y m.so m.sn ∧ w.ownsRow base 3 1 (.slice c.a c.k c.c) m.bn.toNat (vsOf (tchs m)) ∧ 0 ≤ m.bn
theorem M5Ok.below {w W : World} {c : M5} {m : MvD} (h : M5Ok w c m) (hb : Below w.heap.size w W) : M5Ok W c m := ⟨h.1, h.2.1, h.2.2.1, h.2.2.2.1, h.2.2.2.2.below hb⟩
theorem M5Own.below {w W : World} {base : Nat} {c : M5} {m : MvD} (h : M5Own w base c m) (hb : Below w.heap.size w W) : M5Own W base c m := ⟨h.1, h.2.1, h.2.2.1, h.2.2.2.1, owns_below h.2.2.2.2.1 hb, h.2.2.2.2.2⟩
theorem M5Own.ok {w : World} {base : Nat} {c : M5} {m : MvD} (h : M5Own w base c m) : M5Ok w c m := by
  refine ⟨h.1, h.2.1, h.2.2.1, h.2.2.2.1, ?_⟩
  have := intsOf h.2.2.2.2.1
  rw [Int.toNat_of_nonneg h.2.2.2.2.2] at this
  exact this
theorem M5Own.set {w : World} {base g n k : Nat} {c : M5} {m : MvD} {l : List M5} (h : M5Own w base c m) (hr : RowM w base g n k l) (o : Nat) (u : Value) : M5Own (w.setCell ⟨g, o, none⟩ u) base c m := by
  refine ⟨h.1, h.2.1, h.2.2.1, h.2.2.2.1, ownsRow_setCell_other h.2.2.2.2.1 (fun e => ?_) u, h.2.2.2.2.2⟩
  have := kinds_ne h.2.2.2.2.1 hr (by decide)
  rw [e] at this
  rcases this with h | h
  · cases h
  · exact h rfl
theorem stayB_eq {w : World} {c : M5} {m : MvD} (h : M5Ok w c m) : stayB c = stayD m := by
  obtain ⟨h1, h2, h3, h4, -⟩ := h
  unfold stayB stayD
  rw [h1, h2, h3, letK_iff h4]
  by_cases hx : m.x = 0 <;> simp [hx]

/-- Two lists, one element beside the other. -/
inductive F2 {α β : Type} (R : α → β → Prop) : List α → List β → Prop
  | nil : F2 R [] []
  | cons {a : α} {b : β} {l : List α} {m : List β} (h : R a b) (t : F2 R l m) : F2 R (a :: l) (b :: m)
theorem F2.len {α β : Type} {R : α → β → Prop} {l : List α} {m : List β} (h : F2 R l m) : l.length = m.length := by
  induction h with
  | nil => rfl
  | cons _ _ ih => simp [ih]
theorem F2.imp {α β : Type} {R S : α → β → Prop} {l : List α} {m : List β} (h : F2 R l m) (f : ∀ a b, R a b → S a b) : F2 S l m := by
  induction h with
  | nil => exact .nil
  | cons h _ ih => exact .cons (f _ _ h) ih
theorem F2.at {α β : Type} {R : α → β → Prop} {l : List α} {m : List β} (h : F2 R l m) : ∀ {i : Nat} {a : α}, l[i]? = some a → ∃ b, m[i]? = some b ∧ R a b := by
  induction h with
  | nil => intro i a e; simp at e
  | cons h _ ih =>
    intro i a e
    cases i with
    | zero => simp only [List.getElem?_cons_zero, Option.some.injEq] at e; subst e; exact ⟨_, rfl, h⟩
    | succ i => simp only [List.getElem?_cons_succ] at e ⊢; exact ih e
theorem F2.filter {α β : Type} {R : α → β → Prop} {l : List α} {m : List β} (h : F2 R l m) {p : α → Bool} {q : β → Bool} (hpq : ∀ a b, R a b → p a = q b) : F2 R (l.filter p) (m.filter q) := by
  induction h with
  | nil => exact .nil
  | cons h _ ih =>
    rw [List.filter_cons, List.filter_cons, hpq _ _ h]
    split
    · exact .cons h ih
    · exact ih
theorem F2.of_get {α β : Type} {R : α → β → Prop} : ∀ {l : List α} {m : List β}, l.length = m.length → (∀ (i : Nat) (a : α) (b : β), l[i]? = some a → m[i]? = some b → R a b) → F2 R l m
  | [], [], _, _ => .nil
  | a :: l, b :: m, hl, h => .cons (h 0 a b rfl rfl) (F2.of_get (by simpa using hl) fun i x y hx hy => h (i + 1) x y (by simpa using hx) (by simpa using hy))
  | [], _ :: _, hl, _ => by simp at hl
  | _ :: _, [], hl, _ => by simp at hl

/-- A list of moves' data as a function. -/
def dOf (L : List MvD) (i : Nat) : MvD := L[i]?.getD noM
theorem moves_flat {w : World} {base k : Nat} {v : Value} {l : List M5} {L : List MvD} (hrow : w.ownsRow base 27 5 v k (flat l)) (h : F2 (M5Ok w) l L) : k = L.length ∧ IsMoves w v (dOf L) L.length := by
  have hlen := h.len
  have hk : k = L.length := by have := hrow.1; rw [length_flat] at this; omega
  subst hk
  refine ⟨rfl, ?_⟩
  rcases hrow.2 with ⟨rfl, hn⟩ | ⟨g, cap, cur, rfl, h1, h2, h3, h4, h5, h6⟩
  · rw [hn]
    exact ⟨none, 0, rfl, Nat.le_refl _, fun q => absurd rfl q⟩
  · refine ⟨_, cap, rfl, h3, fun _ => ⟨g, 0, rfl, fun i hi => ?_⟩⟩
    obtain ⟨c, hc⟩ : ∃ c, l[i]? = some c := ⟨_, List.getElem?_eq_getElem (by omega)⟩
    obtain ⟨m, hm, r1, r2, r3, r4, r5⟩ := h.at hc
    obtain ⟨e0, e1, e2, e3, e4⟩ := flat_get hc
    have c : ∀ k, k < 5 → w.cell? ⟨g, 5 * i + k, none⟩ = (flat l)[5 * i + k]? := fun k hk => hrow.cellAt _ (by omega)
    have ed : dOf L i = m := by unfold dOf; rw [hm]; rfl
    rw [ed]
    refine ⟨_, _, ?_, r4, r5⟩
    simp only [cellsAt, Nat.zero_add]
    have c0 := c 0 (by omega)
    rw [Nat.add_zero] at c0
    rw [show (5 * i + 1 + 1 : Nat) = 5 * i + 2 from rfl, show (5 * i + 2 + 1 : Nat) = 5 * i + 3 from rfl, show (5 * i + 3 + 1 : Nat) = 5 * i + 4 from rfl, c0, c 1 (by omega), c 2 (by omega), c 3 (by omega), c 4 (by omega), e0, e1, e2, e3, e4, r1, r2, r3]
    rfl
theorem keptC_flat (p : M5 → Bool) : ∀ (l : List M5) (k : Nat), k ≤ l.length → keptC (fun i => (l[i]?.map p).getD false) (fun i => (l[i]?.map M5.vals).getD []) k = flat ((l.take k).filter p) ∧ keptN (fun i => (l[i]?.map p).getD false) k = ((l.take k).filter p).length
  | l, 0, _ => by simp [keptC, keptN, flat]
  | l, k + 1, h => by
    obtain ⟨i1, i2⟩ := keptC_flat p l k (by omega)
    obtain ⟨c, hc⟩ : ∃ c, l[k]? = some c := ⟨_, List.getElem?_eq_getElem (by omega)⟩
    have ht : l.take (k + 1) = l.take k ++ [c] := by rw [List.take_add_one, hc]; rfl
    rw [keptC, keptN, i1, i2, ht, List.filter_append, flat_append, List.length_append]
    simp only [hc, Option.map_some, Option.getD_some, List.filter_cons, List.filter_nil]
    by_cases hp : p c = true
    · simp [hp, flat]
    · simp [hp, flat]

/-! ### the order -/
def DupL (l : List M5) : Prop := ∃ i, i + 1 < l.length ∧ key l (i + 1) = key l i
/-- Two moves of the same runner. -/
def DupD (d : Nat → MvD) (n : Nat) : Prop := ∃ j i, j < i ∧ i < n ∧ (d j).fr = (d i).fr
/-- The moves' places, From falling. -/
def srtI (d : Nat → MvD) (n : Nat) : List Nat := (List.range n).mergeSort (fun i j => decide ((d j).fr ≤ (d i).fr))
theorem srt_perm (d : Nat → MvD) (n : Nat) : (srtI d n).Perm (List.range n) := List.mergeSort_perm _ _
theorem srt_desc (d : Nat → MvD) (n : Nat) : (srtI d n).Pairwise (fun i j => (d j).fr ≤ (d i).fr) := by
  have := List.pairwise_mergeSort (le := fun i j => decide ((d j).fr ≤ (d i).fr)) (fun a b c h1 h2 => by simp only [decide_eq_true_eq] at *; omega) (fun a b => by simp only [Bool.or_eq_true, decide_eq_true_eq]; omega) (List.range n)
  exact this.imp fun h => by simpa using h
theorem srt_uniq {d : Nat → MvD} {n : Nat} {ys : List Nat} (hp : ys.Perm (List.range n)) (hd : ys.Pairwise (fun i j => (d j).fr ≤ (d i).fr)) (hn : ¬ DupD d n) : ys = srtI d n := by
  refine List.Perm.eq_of_pairwise (le := fun i j => (d j).fr ≤ (d i).fr) ?_ hd (srt_desc d n) (hp.trans (srt_perm d n).symm)
  intro a b ha hb h1 h2
  have la : a < n := List.mem_range.1 (hp.mem_iff.1 ha)
  have lb : b < n := List.mem_range.1 ((srt_perm d n).mem_iff.1 hb)
  rcases Nat.lt_trichotomy a b with h | h | h
  · exact absurd ⟨a, b, h, lb, by omega⟩ hn
  · exact h
  · exact absurd ⟨b, a, h, la, by omega⟩ hn
theorem nodup_perm {n : Nat} {ys : List Nat} (hp : ys.Perm (List.range n)) : ys.Nodup := hp.nodup_iff.2 List.nodup_range
/-- A neighbour with the same From. -/
theorem dup_of_adj {d : Nat → MvD} {n i : Nat} {ys : List Nat} {a b : Nat} (hp : ys.Perm (List.range n)) (ha : ys[i]? = some a) (hb : ys[i + 1]? = some b) (he : (d a).fr = (d b).fr) : DupD d n := by
  have hn := nodup_perm hp
  obtain ⟨l1, e1⟩ := List.getElem?_eq_some_iff.1 ha
  obtain ⟨l2, e2⟩ := List.getElem?_eq_some_iff.1 hb
  have hne : a ≠ b := by
    have := List.pairwise_iff_getElem.1 hn i (i + 1) l1 l2 (by omega)
    rw [e1, e2] at this; exact this
  have la : a < n := List.mem_range.1 (hp.mem_iff.1 (e1 ▸ List.getElem_mem l1))
  have lb : b < n := List.mem_range.1 (hp.mem_iff.1 (e2 ▸ List.getElem_mem l2))
  rcases Nat.lt_or_gt_of_ne hne with h | h
  · exact ⟨a, b, h, lb, he⟩
  · exact ⟨b, a, h, la, he.symm⟩
theorem nodup_of_adj {d : Nat → MvD} {n : Nat} {ys : List Nat} (hp : ys.Perm (List.range n)) (hd : ys.Pairwise (fun i j => (d j).fr ≤ (d i).fr)) (ha : ∀ i a b, ys[i]? = some a → ys[i + 1]? = some b → (d a).fr ≠ (d b).fr) : ¬ DupD d n := by
  have hs : ∀ p q a b : Nat, p < q → ys[p]? = some a → ys[q]? = some b → (d b).fr < (d a).fr := by
    intro p q
    induction q with
    | zero => intro a b h; omega
    | succ q ih =>
      intro a b hpq h1 h2
      have l2 := (List.getElem?_eq_some_iff.1 h2).1
      obtain ⟨c, hc⟩ : ∃ c, ys[q]? = some c := ⟨_, List.getElem?_eq_getElem (by omega)⟩
      have hcb : (d b).fr < (d c).fr := by
        have hne := ha q c b hc h2
        obtain ⟨l1, e1⟩ := List.getElem?_eq_some_iff.1 hc
        obtain ⟨l2, e2⟩ := List.getElem?_eq_some_iff.1 h2
        have := List.pairwise_iff_getElem.1 hd q (q + 1) l1 l2 (by omega)
        rw [e1, e2] at this; omega
      by_cases e : p = q
      · subst e; rw [h1] at hc; cases hc; exact hcb
      · have := ih a c (by omega) h1 hc; omega
  rintro ⟨j, i, hji, hin, he⟩
  have mj : j ∈ ys := hp.mem_iff.2 (List.mem_range.2 (by omega))
  have mi : i ∈ ys := hp.mem_iff.2 (List.mem_range.2 hin)
  obtain ⟨p, hp1⟩ := List.mem_iff_getElem?.1 mj
  obtain ⟨q, hq1⟩ := List.mem_iff_getElem?.1 mi
  rcases Nat.lt_trichotomy p q with h | h | h
  · have := hs p q _ _ h hp1 hq1; omega
  · subst h; rw [hp1] at hq1; cases hq1; omega
  · have := hs q p _ _ h hq1 hp1; omega
theorem desc_pair {f : Nat → M5} {d : Nat → MvD} {n : Nat} {ys : List Nat} (hp : ys.Perm (List.range n)) (hf : ∀ i, i < n → (f i).f1 = (d i).fr) (h : Desc (ys.map f) n) : ys.Pairwise (fun i j => (d j).fr ≤ (d i).fr) := by
  have hl : ys.length = n := by have := hp.length_eq; simpa using this
  have hm : ∀ i, i ∈ ys → i < n := fun i hi => List.mem_range.1 (hp.mem_iff.1 hi)
  rw [List.pairwise_iff_getElem]
  intro i j hi hj hij
  have := h i j hij (by omega)
  unfold key at this
  simp only [List.getElem?_map, List.getElem?_eq_getElem hi, List.getElem?_eq_getElem hj, Option.map_some, Option.getD_some] at this
  rw [hf _ (hm _ (List.getElem_mem hi)), hf _ (hm _ (List.getElem_mem hj))] at this
  exact this

/-! ### the canonical form -/
/-- The moves of the canonical form. -/
def canL (d : Nat → MvD) (n : Nat) : List MvD := ((srtI d n).map fun i => plainM (d i)).filter fun m => !stayD m
/-- Too large. -/
def BigC (yn : Int) (d : Nat → MvD) (n : Nat) : Prop := 24 < yn ∨ 4 < n ∨ anyK (fun i => decide (36 < (d i).bn)) n = true
instance (yn : Int) (d : Nat → MvD) (n : Nat) : Decidable (BigC yn d n) := inferInstanceAs (Decidable (_ ∨ _ ∨ _))
theorem dup_iff (d : Nat → MvD) (n : Nat) : DupD d n ↔ ∃ i, i < n ∧ ∃ j, j < i ∧ (d j).fr = (d i).fr :=
  ⟨fun ⟨j, i, h1, h2, h3⟩ => ⟨i, h2, j, h1, h3⟩, fun ⟨i, h2, j, h1, h3⟩ => ⟨j, i, h1, h2, h3⟩⟩
instance (d : Nat → MvD) (n : Nat) : Decidable (DupD d n) := decidable_of_iff _ (dup_iff d n).symm
/-- The canonical form's error. -/
def canE (y0 : Int → Int) (yo yn : Int) (y1 : Int → Int) (eo en : Int) (d : Nat → MvD) (n : Nat) : Int :=
  if BigC yn d n then 5 else if DupD d n then 9 else plV y0 yo yn y1 eo en (dOf (canL d n)) (canL d n).length
def lateC (lx : Bool) (L : List MvD) : Bool := lx && L.any runQ && L.any outQ
theorem anyK_list (q : MvD → Bool) (L : List MvD) : ∀ k, k ≤ L.length → anyK (fun i => q (dOf L i)) k = (L.take k).any q
  | 0, _ => by simp [anyK]
  | k + 1, h => by
    rw [anyK, anyK_list q L k (by omega), List.take_succ_eq_append_getElem (by omega), List.any_append]
    simp [dOf, List.getElem?_eq_getElem (show k < L.length by omega)]
theorem anyK_all (q : MvD → Bool) (L : List MvD) : anyK (fun i => q (dOf L i)) L.length = L.any q := by rw [anyK_list q L _ (Nat.le_refl _), List.take_length]
end Go.Proofs.Tryz
