/- Short lists of games, as the reference sees them: by the kit's walk. The kinds of counts, on both sides; lists of words compared: by the kit's walk. Books and games of the season made out of the reference's; awake: by the kit's walk. -/
import Derived.Test.YtbfonnoebbjenaaGreatDoorAxL
import Derived.Deep.QuietTactic
import Derived.Test.YtbfonnoebbjenaaGreatDoorAmL6
import Derived.Handy
namespace Go.Proofs.Tryz
open Go Go.Am Go.RowKit Go.Op
set_option maxRecDepth 100000

def shLn (x : LnD) : Prop := x.p.length ≤ 60 ∧ x.t.length ≤ 60
def shHd (g : GmD) : Prop := g.nm.length ≤ 60 ∧ g.t0.length ≤ 60 ∧ g.t1.length ≤ 60 ∧ ¬ (6 < g.k ∧ g.k ≤ 60) ∧ g.k ≤ 62
instance (g : GmD) : Decidable (shHd g) := by unfold shHd; infer_instance
def shGm (g : GmD) : Prop := shHd g ∧ ∀ j, j < g.k → shLn (g.l j)
/-- What Short lets pass. -/
def ShortOk (N : Nat) (g : Nat → GmD) (n : Nat) : Prop := ¬ (N < n ∧ n ≤ 64) ∧ n ≤ 66 ∧ ∀ i, i < n → shGm (g i)

/-- A truth value that is true only if p holds. -/
def AnsB (e : Ending) (p : Prop) : Prop := ∃ b : Bool, e = .returned (.bool b) ∧ (b = true → p)
set_option maxHeartbeats 3200000 in
theorem short_w {g : Nat → GmD} {n : Nat} {v : Value} {w : World} (h : IsGames w v g n) (N : Nat) :
    Calls prog 16 #[v, .int .i64 (N : Int)] w fun e w' => AnsB e (ShortOk N g n) ∧ w' = w := by
  have h0 := h
  obtain ⟨lv0, hr, -⟩ := h0
  obtain ⟨ad, c, rfl, hnc⟩ := hr.slice
  clear hr
  go_enter func16, ntmps16
  obtain ⟨bad, hbad⟩ : ∃ b, decide ((N < n ∧ n ≤ 64) ∨ 66 < n) = b := ⟨_, rfl⟩
  go_upto_region 1 with fail
  go_cut [20] (fun s wx => s = .bool bad ∧ wx = w)
  case first =>
    by_cases q1 : N < n
    · have q1' : (N : Int) < (n : Int) := by omega
      by_cases q2 : n ≤ 64
      · have q2' : (n : Int) ≤ 64 := by omega
        obtain rfl : true = bad := by rw [← hbad]; symm; rw [decide_eq_true_eq]; omega
        clear q1 q2 hbad
        go_wp2_with fail
        go_meet
        exact ⟨rfl, rfl⟩
      · have q2' : ¬ (n : Int) ≤ 64 := by omega
        by_cases q3 : n ≤ 66
        · have q3' : ¬ (66 : Int) < (n : Int) := by omega
          obtain rfl : false = bad := by rw [← hbad]; symm; rw [decide_eq_false_iff_not]; omega
          clear q1 q2 q3 hbad
          go_wp2_with fail
          go_meet
          exact ⟨rfl, rfl⟩
        · have q3' : (66 : Int) < (n : Int) := by omega
          obtain rfl : true = bad := by rw [← hbad]; symm; rw [decide_eq_true_eq]; omega
          clear q1 q2 q3 hbad
          go_wp2_with fail
          go_meet
          exact ⟨rfl, rfl⟩
    · have q1' : ¬ (N : Int) < (n : Int) := by omega
      by_cases q3 : n ≤ 66
      · have q3' : ¬ (66 : Int) < (n : Int) := by omega
        obtain rfl : false = bad := by rw [← hbad]; symm; rw [decide_eq_false_iff_not]; omega
        clear q1 q3 hbad
        go_wp2_with fail
        go_meet
        exact ⟨rfl, rfl⟩
      · have q3' : (66 : Int) < (n : Int) := by omega
        obtain rfl : true = bad := by rw [← hbad]; symm; rw [decide_eq_true_eq]; omega
        clear q1 q3 hbad
        go_wp2_with fail
        go_meet
        exact ⟨rfl, rfl⟩
  case rest =>
    obtain ⟨rfl, rfl⟩ := hcut
    cases bad with
    | true =>
      clear hbad
      go_wp2_with fail
      go_ret
      exact ⟨⟨_, rfl, fun h => by cases h⟩, rfl⟩
    | false =>
    rw [decide_eq_false_iff_not] at hbad
    have hn66 : n ≤ 66 := by omega
    have HQ : Hid (¬ (N < n ∧ n ≤ 64) ∧ n ≤ 66) := Lib.hid ⟨fun h => hbad (.inl h), hn66⟩
    clear hbad
    have HE : Hid (∀ i, i < 0 → shGm (g i)) := Lib.hid fun i hi => absurd hi (Nat.not_lt_zero _)
    go_wp2_with fail
    go_loopw [5] (fun s wr => ∃ i : Nat, i ≤ n ∧ s = .int .i64 i ∧ Hid (∀ i', i' < i → shGm (g i')) ∧ wr = wc) (fun s _ => n - (numOf' s).toNat)
    case atStart => exact ⟨0, Nat.zero_le _, rfl, HE, rfl⟩
    case round =>
      clear HE
      obtain ⟨i, hi, rfl, hE, rfl⟩ := hrel
      by_cases hin : i < n
      · obtain ⟨b, off, c1, a1, kc, e, -, hli, p0, p1, p2, p3, p4, p5, p6, p7⟩ := h.at hin
        simp only [Value.slice.injEq, true_and] at e
        obtain ⟨rfl, rfl⟩ := e
        have hii : (i : Int) < (n : Int) := by omega
        have s0 : (bA (g i).nm).size = (g i).nm.length := bA_size _
        have s1 : (bA (g i).t0).size = (g i).t0.length := bA_size _
        have s2 : (bA (g i).t1).size = (g i).t1.length := bA_size _
        clear p1 p2 p5 p6
        obtain ⟨bad, hbad⟩ : ∃ b, decide (¬ shHd (g i)) = b := ⟨_, rfl⟩
        go_upto_region 6 with fail
        go_cut [80] (fun s wx => s = .bool bad ∧ wx = wr)
        case first =>
          by_cases q1 : 60 < (g i).nm.length
          · have q1' : (60 : Int) < ((g i).nm.length : Int) := by omega
            obtain rfl : true = bad := by rw [← hbad]; symm; rw [decide_eq_true_eq]; unfold shHd; omega
            clear q1 hbad
            go_wp2_with fail
            go_meet
            exact ⟨rfl, rfl⟩
          have q1' : ¬ (60 : Int) < ((g i).nm.length : Int) := by omega
          by_cases q2 : 60 < (g i).t0.length
          · have q2' : (60 : Int) < ((g i).t0.length : Int) := by omega
            obtain rfl : true = bad := by rw [← hbad]; symm; rw [decide_eq_true_eq]; unfold shHd; omega
            clear q1 q2 hbad
            go_wp2_with fail
            go_meet
            exact ⟨rfl, rfl⟩
          have q2' : ¬ (60 : Int) < ((g i).t0.length : Int) := by omega
          by_cases q3 : 60 < (g i).t1.length
          · have q3' : (60 : Int) < ((g i).t1.length : Int) := by omega
            obtain rfl : true = bad := by rw [← hbad]; symm; rw [decide_eq_true_eq]; unfold shHd; omega
            clear q1 q2 q3 hbad
            go_wp2_with fail
            go_meet
            exact ⟨rfl, rfl⟩
          have q3' : ¬ (60 : Int) < ((g i).t1.length : Int) := by omega
          by_cases q4 : 6 < (g i).k
          · have q4' : (6 : Int) < ((g i).k : Int) := by omega
            by_cases q5 : (g i).k ≤ 60
            · have q5' : ((g i).k : Int) ≤ 60 := by omega
              obtain rfl : true = bad := by rw [← hbad]; symm; rw [decide_eq_true_eq]; unfold shHd; omega
              clear q1 q2 q3 q4 q5 hbad
              go_wp2_with fail
              go_meet
              exact ⟨rfl, rfl⟩
            have q5' : ¬ ((g i).k : Int) ≤ 60 := by omega
            by_cases q6 : 62 < (g i).k
            · have q6' : (62 : Int) < ((g i).k : Int) := by omega
              obtain rfl : true = bad := by rw [← hbad]; symm; rw [decide_eq_true_eq]; unfold shHd; omega
              clear q1 q2 q3 q4 q5 q6 hbad
              go_wp2_with fail
              go_meet
              exact ⟨rfl, rfl⟩
            have q6' : ¬ (62 : Int) < ((g i).k : Int) := by omega
            obtain rfl : false = bad := by rw [← hbad]; symm; rw [decide_eq_false_iff_not]; unfold shHd; omega
            clear q1 q2 q3 q4 q5 q6 hbad
            go_wp2_with fail
            go_meet
            exact ⟨rfl, rfl⟩
          have q4' : ¬ (6 : Int) < ((g i).k : Int) := by omega
          have q6' : ¬ (62 : Int) < ((g i).k : Int) := by omega
          obtain rfl : false = bad := by rw [← hbad]; symm; rw [decide_eq_false_iff_not]; unfold shHd; omega
          clear q1 q2 q3 q4 hbad
          go_wp2_with fail
          go_meet
          exact ⟨rfl, rfl⟩
        case rest =>
          obtain ⟨rfl, rfl⟩ := hcut
          cases bad with
          | true =>
            clear hbad
            go_wp2_with fail
            go_ret
            exact ⟨⟨_, rfl, fun h => by cases h⟩, rfl⟩
          | false =>
          rw [decide_eq_false_iff_not, Classical.not_not] at hbad
          have hk62 := hbad.2.2.2.2
          have HOK := Lib.hid hbad
          clear hbad p0 p3 p4 s0 s1 s2
          have HE : Hid (∀ j, j < 0 → shLn ((g i).l j)) := Lib.hid fun i hi => absurd hi (Nat.not_lt_zero _)
          go_wp2_with fail
          go_loopw [6] (fun s wx => ∃ j : Nat, j ≤ (g i).k ∧ s = .int .i64 j ∧ Hid (∀ j', j' < j → shLn ((g i).l j')) ∧ wx = wc) (fun s _ => (g i).k - (numOf' s).toNat)
          case atStart => exact ⟨0, Nat.zero_le _, rfl, HE, rfl⟩
          case round =>
            clear HE
            obtain ⟨j, hj, rfl, hE2, rfl⟩ := hrel
            by_cases hjk : j < (g i).k
            · obtain ⟨b2, off2, c2, e2, -, r0, r1, -⟩ := hli.at hjk
              simp only [Value.slice.injEq, true_and] at e2
              obtain ⟨rfl, rfl⟩ := e2
              have hjj : (j : Int) < ((g i).k : Int) := by omega
              have s0 : (bA ((g i).l j).p).size = ((g i).l j).p.length := bA_size _
              have s1 : (bA ((g i).l j).t).size = ((g i).l j).t.length := bA_size _
              by_cases q1 : 60 < ((g i).l j).p.length
              · have q1' : (60 : Int) < (((g i).l j).p.length : Int) := by omega
                clear q1
                go_wp2_with fail
                go_ret
                exact ⟨⟨_, rfl, fun h => by cases h⟩, rfl⟩
              have q1' : ¬ (60 : Int) < (((g i).l j).p.length : Int) := by omega
              by_cases q2 : 60 < ((g i).l j).t.length
              · have q2' : (60 : Int) < (((g i).l j).t.length : Int) := by omega
                clear q1 q2
                go_wp2_with fail
                go_ret
                exact ⟨⟨_, rfl, fun h => by cases h⟩, rfl⟩
              have q2' : ¬ (60 : Int) < (((g i).l j).t.length : Int) := by omega
              have hE3 : Hid (∀ j', j' < j + 1 → shLn ((g i).l j')) := Lib.hid fun j' h' => by
                rcases Nat.lt_succ_iff_lt_or_eq.1 h' with q | rfl
                · exact hE2.out j' q
                · exact ⟨by omega, by omega⟩
              clear q1 q2 hE2
              go_wp2_with fail
              go_roundw
              case rel => exact ⟨j + 1, by omega, by go_num, hE3, by first | trivial | rfl | assumption⟩
              case measure => simp [numOf'] <;> omega
            · obtain rfl : j = (g i).k := by omega
              have hE3 : Hid (∀ i', i' < i + 1 → shGm (g i')) := Lib.hid fun i' h' => by
                rcases Nat.lt_succ_iff_lt_or_eq.1 h' with q | rfl
                · exact hE.out i' q
                · exact ⟨HOK.out, hE2.out⟩
              clear hE hE2 HOK
              go_wp2_with fail
              go_roundw
              case rel => exact ⟨i + 1, by omega, by go_num, hE3, by first | trivial | rfl | assumption⟩
              case measure => simp [numOf'] <;> omega
      · obtain rfl : i = n := by omega
        have HF : Hid (ShortOk N g i) := Lib.hid ⟨HQ.out.1, HQ.out.2, hE.out⟩
        clear hE
        go_wp2_with fail
        go_ret
        exact ⟨⟨_, rfl, fun _ => HF.out⟩, rfl⟩
end Go.Proofs.Tryz

namespace Go.Proofs.Tryz
open Go Go.Am Go.RowKit Go.Op
set_option maxRecDepth 100000

end Go.Proofs.Tryz

namespace Go.Proofs.Tryz
open Go Go.Am Go.RowKit Go.Op
set_option maxRecDepth 100000

theorem Laid.below {w w' : World} (h : Laid w) (hb : Below w.heap.size w w') : Laid w' :=
  ⟨Nat.lt_of_lt_of_le h.1 hb.size, fun o v hv => (hb.cell (cell_under (h.2 o v hv))).trans (h.2 o v hv)⟩
theorem fn15 : cx.fn 15 = some f15 := by kernel_rfl
theorem hasBody15 : f15.body.isSome = true := by kernel_rfl
theorem awake_w {w : World} (h : Laid w) : Calls prog 15 #[] w fun e w' => e = .returned (.bool true) ∧ Below w.heap.size w w' := by
  obtain ⟨c, hc⟩ := Option.isSome_iff_exists.1 hasBody15
  refine (CallRet.calls fn15 hc (awake h)).mono fun e W' ⟨v, he, hv, hk⟩ => ?_
  subst hv
  exact ⟨he, hk.below⟩
theorem isGames_one {W : World} {b c e : Nat} {g : GmD} {lv : Value} (h : At W b (g.arr lv) e) (hl : IsLines W lv g.l g.k) (hc : 1 ≤ c) : IsGames W (.slice (some ⟨b, 0, none⟩) 1 c) (fun _ => g) 1 := by
  refine ⟨fun _ => lv, ⟨_, c, rfl, hc, fun _ => ⟨b, 0, rfl, fun i hi j u hu => ?_⟩⟩, fun _ _ => hl⟩
  obtain rfl : i = 0 := by omega
  unfold At at h
  unfold World.cell?
  simp only [h]
  rw [Nat.zero_mul, Nat.add_zero, Nat.zero_add]
  simpa [GmD.arr, GmD.cells] using hu
/-- A block of eight cells written anew. -/
def put8 (w : World) (b : Nat) (v0 v1 v2 v3 v4 v5 v6 v7 : Value) : World := (((((((w.setCell ⟨b, 0, none⟩ v0).setCell ⟨b, 1, none⟩ v1).setCell ⟨b, 2, none⟩ v2).setCell ⟨b, 3, none⟩ v3).setCell ⟨b, 4, none⟩ v4).setCell ⟨b, 5, none⟩ v5).setCell ⟨b, 6, none⟩ v6).setCell ⟨b, 7, none⟩ v7
theorem At.put8 {w : World} {b : Nat} {e : TypeId} {c0 c1 c2 c3 c4 c5 c6 c7 : Value} (h : At w b #[c0, c1, c2, c3, c4, c5, c6, c7] e) (v0 v1 v2 v3 v4 v5 v6 v7 : Value) : At (put8 w b v0 v1 v2 v3 v4 v5 v6 v7) b #[v0, v1, v2, v3, v4, v5, v6, v7] e := by
  unfold Go.Proofs.Tryz.put8
  have a1 : At _ b #[v0, c1, c2, c3, c4, c5, c6, c7] e := h.set 0 v0
  have a2 : At _ b #[v0, v1, c2, c3, c4, c5, c6, c7] e := a1.set 1 v1
  have a3 : At _ b #[v0, v1, v2, c3, c4, c5, c6, c7] e := a2.set 2 v2
  have a4 : At _ b #[v0, v1, v2, v3, c4, c5, c6, c7] e := a3.set 3 v3
  have a5 : At _ b #[v0, v1, v2, v3, v4, c5, c6, c7] e := a4.set 4 v4
  have a6 : At _ b #[v0, v1, v2, v3, v4, v5, c6, c7] e := a5.set 5 v5
  have a7 : At _ b #[v0, v1, v2, v3, v4, v5, v6, c7] e := a6.set 6 v6
  have a8 : At _ b #[v0, v1, v2, v3, v4, v5, v6, v7] e := a7.set 7 v7
  exact a8
theorem below_put8 {w W : World} {B b : Nat} (h : Below B w W) (hb : B ≤ b) (v0 v1 v2 v3 v4 v5 v6 v7 : Value) : Below B w (Go.Proofs.Tryz.put8 W b v0 v1 v2 v3 v4 v5 v6 v7) := by
  unfold Go.Proofs.Tryz.put8
  exact (((((((h.setCell (p := ⟨b, 0, none⟩) hb _).setCell (p := ⟨b, 1, none⟩) hb _).setCell (p := ⟨b, 2, none⟩) hb _).setCell (p := ⟨b, 3, none⟩) hb _).setCell (p := ⟨b, 4, none⟩) hb _).setCell (p := ⟨b, 5, none⟩) hb _).setCell (p := ⟨b, 6, none⟩) hb _).setCell (p := ⟨b, 7, none⟩) hb _
theorem OwnRow.put8 {w : World} {base e m : Nat} {v : Value} {l : List (List Value)} (h : OwnRow w base e m v l) {b e' : Nat} {cs : Array Value} (ha : At w b cs e') (hne : e ≠ e') (v0 v1 v2 v3 v4 v5 v6 v7 : Value) : OwnRow (Go.Proofs.Tryz.put8 w b v0 v1 v2 v3 v4 v5 v6 v7) base e m v l := by
  unfold Go.Proofs.Tryz.put8
  have a1 := ha.set 0 v0
  have a2 := a1.set 1 v1
  have a3 := a2.set 2 v2
  have a4 := a3.set 3 v3
  have a5 := a4.set 4 v4
  have a6 := a5.set 5 v5
  have a7 := a6.set 6 v6
  exact (((((((h.setCell ha hne 0 v0).setCell a1 hne 1 v1).setCell a2 hne 2 v2).setCell a3 hne 3 v3).setCell a4 hne 4 v4).setCell a5 hne 5 v5).setCell a6 hne 6 v6).setCell a7 hne 7 v7
theorem book_of {g : Nat → GmD} {n : Nat} {v : Value} {w : World} (h : IsGames w v g n) (hn : n ≤ 1000) (hk : ∀ i, i < n → (g i).k ≤ 1000) :
    Calls prog 18 #[v] w fun e w' => (∃ u, e = .returned (.agg #[u]) ∧ OwnGames w' w.heap.size 110 132 u g n) ∧ Below w.heap.size w w' := by
  have hb0 : ∀ o, Below w.heap.size w (w.alloc o) := fun o => (Below.refl _ _).alloc (Nat.le_refl _) _
  have cO := own_w (h.below (hb0 (.cells #[.slice none 0 0] 31))) hn hk
  have hx := at_new w #[.slice none 0 0] 31
  have hz0 := hb0 (.cells #[.slice none 0 0] 31)
  obtain ⟨W1, hW⟩ : ∃ W1, w.alloc (.cells #[.slice none 0 0] 31) = W1 := ⟨_, rfl⟩
  rw [hW] at cO hx hz0
  clear h hk
  go_enter func18, ntmps18
  go_wp2_with fail
  try rw [hW]
  go_at_call 20
  refine cO.mono ?_
  rintro e w2 ⟨⟨u, rfl, hu⟩, hb⟩
  obtain ⟨a5, c5, rfl⟩ := hu.slice
  have hx2 := hx.below hb hx.lt
  obtain ⟨y0, f0⟩ := box1 hx2
  have hb2 := hz0.trans (hb.mono hz0.size)
  have hb3 := fun v => hb2.setCell (p := ⟨w.heap.size, 0, none⟩) (Nat.le_refl _) v
  have hx3 := hx2.set 0 (.slice a5 n c5)
  obtain ⟨y1, f1⟩ := box1 hx3
  have hu3 : OwnGames (w2.setCell ⟨w.heap.size, 0, none⟩ (.slice a5 n c5)) w.heap.size 110 132 (.slice a5 n c5) g n := by
    obtain ⟨lv, h1, h2⟩ := hu
    exact ⟨lv, (h1.setCell hx2 (by decide) _ _).mono hz0.size, fun i hi => (OwnRow.setCell (h2 i hi) hx2 (by decide) _ _).mono hz0.size⟩
  clear cO hx hz0 hb hu hW hx2 hx3 hb0
  go_wp2_with fail
  refine bodyPost_ret (by simp [results, go_sem, y1]; rfl) rfl ?_
  exact ⟨⟨_, rfl, hu3⟩, hb3 _⟩
theorem single_w {g : GmD} {ad : Option Addr} {kc : Nat} {w : World} (hl : IsLines w (.slice ad g.k kc) g.l g.k) (hk : g.k ≤ 1000) :
    Calls prog 56 #[g.val (.slice ad g.k kc)] w fun e w' => (∃ a c, e = .returned (g.val (.slice a g.k c)) ∧ OwnLines w' w.heap.size 132 (.slice a g.k c) g.l g.k) ∧ Below w.heap.size w w' := by
  have hx0 := at_new w (g.arr (.slice ad g.k kc)) 105
  have hx1 := hx0.alloc (.cells #[.string ⟨#[]⟩, .int .i64 0, .int .i64 0, .string ⟨#[]⟩, .string ⟨#[]⟩, .int .i64 0, .int .i64 0, .slice none 0 0] 110)
  have hb0 : Below w.heap.size w (w.alloc (.cells (g.arr (.slice ad g.k kc)) 105)) := (Below.refl _ _).alloc (Nat.le_refl _) _
  have hb1 : Below w.heap.size w ((w.alloc (.cells (g.arr (.slice ad g.k kc)) 105)).alloc (.cells #[.string ⟨#[]⟩, .int .i64 0, .int .i64 0, .string ⟨#[]⟩, .string ⟨#[]⟩, .int .i64 0, .int .i64 0, .slice none 0 0] 110)) := hb0.alloc hb0.size _
  have hy : At ((w.alloc (.cells (g.arr (.slice ad g.k kc)) 105)).alloc (.cells #[.string ⟨#[]⟩, .int .i64 0, .int .i64 0, .string ⟨#[]⟩, .string ⟨#[]⟩, .int .i64 0, .int .i64 0, .slice none 0 0] 110)) (w.heap.size + 1) #[.string ⟨#[]⟩, .int .i64 0, .int .i64 0, .string ⟨#[]⟩, .string ⟨#[]⟩, .int .i64 0, .int .i64 0, .slice none 0 0] 110 := by
    have := at_new (w.alloc (.cells (g.arr (.slice ad g.k kc)) 105)) #[.string ⟨#[]⟩, .int .i64 0, .int .i64 0, .string ⟨#[]⟩, .string ⟨#[]⟩, .int .i64 0, .int .i64 0, .slice none 0 0] 110
    simpa using this
  obtain ⟨W1, hW⟩ : ∃ W1, (w.alloc (.cells (g.arr (.slice ad g.k kc)) 105)).alloc (.cells #[.string ⟨#[]⟩, .int .i64 0, .int .i64 0, .string ⟨#[]⟩, .string ⟨#[]⟩, .int .i64 0, .int .i64 0, .slice none 0 0] 110) = W1 := ⟨_, rfl⟩
  rw [hW] at hx1 hb1 hy
  unfold GmD.arr at hx1 hW
  obtain ⟨⟨x0, x1, x2, x3, x4, x5, x6, x7⟩, -⟩ := box8 hx1
  have hl1 := hl.below hb1
  unfold GmD.val
  clear hx0 hb0 hx1 hl
  go_enter func56, ntmps56
  go_wp2_with (first
    | (with_reducible refine haltR ?_)
    | fail)
  unfold Halt
  try rw [hW]
  clear hW x0 x1 x2 x3 x4 x5 x6 x7
  refine wpList_sliceR (fun w => run_sliceGR w g ad g.k kc) _ rfl _ rfl rfl ?_
  have hal : Below W1.heap.size W1 (W1.alloc (.cells (g.arr (.slice ad g.k kc)) 105)) := (Below.refl W1.heap.size W1).alloc (Nat.le_refl _) _
  have hG1 : IsGames (W1.alloc (.cells (g.arr (.slice ad g.k kc)) 105)) (.slice (some ⟨W1.heap.size, 0, none⟩) 1 1) (fun _ => g) 1 := isGames_one (at_new _ _ _) (hl1.below hal) (Nat.le_refl _)
  have cO := own_w hG1 (by decide) (fun _ _ => hk)
  have hb2 := hb1.trans (hal.mono hb1.size)
  have hsz2 := hb2.size
  have hy2 := hy.below hal hy.lt
  clear hG1 hl1 hb1 hy hal
  generalize W1.alloc (.cells (g.arr (.slice ad g.k kc)) 105) = W2 at cO hb2 hy2 hsz2 ⊢
  go_wp2_with fail
  go_at_call 20
  refine cO.mono ?_
  rintro e w3 ⟨⟨u, rfl, hu⟩, hb⟩
  have hy3 := hy2.below hb hy2.lt
  have hb3 := hb2.trans (hb.mono hb2.size)
  obtain ⟨b, off, c1, a1, k1, e, -, -, p0, p1, p2, p3, p4, p5, p6, p7⟩ := hu.is.at (show 0 < 1 by decide)
  subst e
  have hL3 : OwnLines w3 W2.heap.size 132 (.slice a1 g.k k1) g.l g.k := by
    obtain ⟨lv, h1, h2⟩ := hu
    have h4 := h2 0 (by decide)
    obtain ⟨b', off', c', e', -, h5⟩ := h1.row.at (i := 0) (by rw [gamesL_len]; decide)
    simp only [Value.slice.injEq, Option.some.injEq, Addr.mk.injEq, and_true] at e'
    obtain ⟨⟨rfl, rfl⟩, -, rfl⟩ := e'
    have h6 := h5 7 (lv 0) rfl
    rw [show off + 0 * 8 + 7 = off + 0 * 8 + 7 from rfl, p7] at h6
    simp only [Option.some.injEq] at h6
    rw [h6]; exact h4
  simp only [Nat.zero_mul, Nat.add_zero] at p0 p1 p2 p3 p4 p5 p6 p7
  obtain ⟨⟨y0, y1, y2, y3, y4, y5, y6, y7⟩, f0, f1, f2, f3, f4, f5, f6, f7⟩ := box8 hy3
  clear cO hb2 hy2 hb hu
  go_wp2_with fail
  have hz := hy3.put8 (.string (bA g.nm)) (.int .i64 g.ver) (.int .i64 g.day) (.string (bA g.t0)) (.string (bA g.t1)) (.int .i64 g.s0) (.int .i64 g.s1) (.slice a1 g.k k1)
  have hb4 := below_put8 hb3 (Nat.le_succ _) (.string (bA g.nm)) (.int .i64 g.ver) (.int .i64 g.day) (.string (bA g.t0)) (.string (bA g.t1)) (.int .i64 g.s0) (.int .i64 g.s1) (.slice a1 g.k k1)
  have hL4 := OwnRow.put8 hL3 hy3 (by decide) (.string (bA g.nm)) (.int .i64 g.ver) (.int .i64 g.day) (.string (bA g.t0)) (.string (bA g.t1)) (.int .i64 g.s0) (.int .i64 g.s1) (.slice a1 g.k k1)
  unfold Go.Proofs.Tryz.put8 at hz hb4 hL4
  obtain ⟨⟨z0, z1, z2, z3, z4, z5, z6, z7⟩, -⟩ := box8 hz
  refine bodyPost_ret (v := .agg #[.string (bA g.nm), .int .i64 g.ver, .int .i64 g.day, .string (bA g.t0), .string (bA g.t1), .int .i64 g.s0, .int .i64 g.s1, .slice a1 g.k k1]) ?_ rfl ⟨⟨a1, k1, rfl, OwnLines.mono hL4 ?_⟩, hb4⟩
  · simp [results, go_sem, z0, z1, z2, z3, z4, z5, z6, z7]
  · exact hsz2
end Go.Proofs.Tryz
