/- Short lists of games, as the reference sees them: by the kit's walk. Books and games of the season made out of the reference's; awake: by the kit's walk. valid (at most six games, short, a book) and what SeasonZeros asks of standings. -/
import Derived.Test.YtbfonnoebbjenaaGreatDoorAxPb
import Derived.Test.YtbfonnoebbjenaaGreatDoorAxTj
import Derived.Test.YtbfonnoebbjenaaGreatDoorAmL6
import Derived.Handy
import Derived.Test.YtbfonnoebbjenaaGreatDoorAxSi
import Derived.Test.YtbfonnoebbjenaaGreatDoorAxR
namespace Go.Proofs.Tryz
open Go Go.Am Go.RowKit Go.Op
set_option maxRecDepth 100000

def shLn (x : LnD) : Prop := x.p.length ≤ 60 ∧ x.t.length ≤ 60
def shHd (g : GmD) : Prop := g.nm.length ≤ 60 ∧ g.t0.length ≤ 60 ∧ g.t1.length ≤ 60 ∧ ¬ (6 < g.k ∧ g.k ≤ 60) ∧ g.k ≤ 62
instance (g : GmD) : Decidable (shHd g) := by unfold shHd; infer_instance
def shGm (g : GmD) : Prop := shHd g ∧ ∀ j, j < g.k → shLn (g.l j)
/-- What Short lets pass. -/
def ShortOk (N : Nat) (g : Nat → GmD) (n : Nat) : Prop := ¬ (N < n ∧ n ≤ 64) ∧ n ≤ 66 ∧ ∀ i, i < n → shGm (g i)

/-- A truth value that is true only if p holds. -/
def AnsB (e : Ending) (p : Prop) : Prop := ∃ b : Bool, e = .returned (.bool b) ∧ (b = true → p)
set_option maxHeartbeats 3200000 in
theorem short_w {g : Nat → GmD} {n : Nat} {v : Value} {w : World} (h : IsGames w v g n) (N : Nat) :
    Calls prog 16 #[v, .int .i64 (N : Int)] w fun e w' => AnsB e (ShortOk N g n) ∧ w' = w := by
  have h0 := h
  obtain ⟨lv0, hr, -⟩ := h0
  obtain ⟨ad, c, rfl, hnc⟩ := hr.slice
  clear hr
  go_enter func16, ntmps16
  obtain ⟨bad, hbad⟩ : ∃ b, decide ((N < n ∧ n ≤ 64) ∨ 66 < n) = b := ⟨_, rfl⟩
  go_upto_region 1 with fail
  go_cut [20] (fun s wx => s = .bool bad ∧ wx = w)
  case first =>
    by_cases q1 : N < n
    · have q1' : (N : Int) < (n : Int) := by omega
      by_cases q2 : n ≤ 64
      · have q2' : (n : Int) ≤ 64 := by omega
        obtain rfl : true = bad := by rw [← hbad]; symm; rw [decide_eq_true_eq]; omega
        clear q1 q2 hbad
        go_wp2_with fail
        go_meet
        exact ⟨rfl, rfl⟩
      · have q2' : ¬ (n : Int) ≤ 64 := by omega
        by_cases q3 : n ≤ 66
        · have q3' : ¬ (66 : Int) < (n : Int) := by omega
          obtain rfl : false = bad := by rw [← hbad]; symm; rw [decide_eq_false_iff_not]; omega
          clear q1 q2 q3 hbad
          go_wp2_with fail
          go_meet
          exact ⟨rfl, rfl⟩
        · have q3' : (66 : Int) < (n : Int) := by omega
          obtain rfl : true = bad := by rw [← hbad]; symm; rw [decide_eq_true_eq]; omega
          clear q1 q2 q3 hbad
          go_wp2_with fail
          go_meet
          exact ⟨rfl, rfl⟩
    · have q1' : ¬ (N : Int) < (n : Int) := by omega
      by_cases q3 : n ≤ 66
      · have q3' : ¬ (66 : Int) < (n : Int) := by omega
        obtain rfl : false = bad := by rw [← hbad]; symm; rw [decide_eq_false_iff_not]; omega
        clear q1 q3 hbad
        go_wp2_with fail
        go_meet
        exact ⟨rfl, rfl⟩
      · have q3' : (66 : Int) < (n : Int) := by omega
        obtain rfl : true = bad := by rw [← hbad]; symm; rw [decide_eq_true_eq]; omega
        clear q1 q3 hbad
        go_wp2_with fail
        go_meet
        exact ⟨rfl, rfl⟩
  case rest =>
    obtain ⟨rfl, rfl⟩ := hcut
    cases bad with
    | true =>
      clear hbad
      go_wp2_with fail
      go_ret
      exact ⟨⟨_, rfl, fun h => by cases h⟩, rfl⟩
    | false =>
    rw [decide_eq_false_iff_not] at hbad
    have hn66 : n ≤ 66 := by omega
    have HQ : Hid (¬ (N < n ∧ n ≤ 64) ∧ n ≤ 66) := Lib.hid ⟨fun h => hbad (.inl h), hn66⟩
    clear hbad
    have HE : Hid (∀ i, i < 0 → shGm (g i)) := Lib.hid fun i hi => absurd hi (Nat.not_lt_zero _)
    go_wp2_with fail
    go_loopw [5] (fun s wr => ∃ i : Nat, i ≤ n ∧ s = .int .i64 i ∧ Hid (∀ i', i' < i → shGm (g i')) ∧ wr = wc) (fun s _ => n - (numOf' s).toNat)
    case atStart => exact ⟨0, Nat.zero_le _, rfl, HE, rfl⟩
    case round =>
      clear HE
      obtain ⟨i, hi, rfl, hE, rfl⟩ := hrel
      by_cases hin : i < n
      · obtain ⟨b, off, c1, a1, kc, e, -, hli, p0, p1, p2, p3, p4, p5, p6, p7⟩ := h.at hin
        simp only [Value.slice.injEq, true_and] at e
        obtain ⟨rfl, rfl⟩ := e
        have hii : (i : Int) < (n : Int) := by omega
        have s0 : (bA (g i).nm).size = (g i).nm.length := bA_size _
        have s1 : (bA (g i).t0).size = (g i).t0.length := bA_size _
        have s2 : (bA (g i).t1).size = (g i).t1.length := bA_size _
        clear p1 p2 p5 p6
        obtain ⟨bad, hbad⟩ : ∃ b, decide (¬ shHd (g i)) = b := ⟨_, rfl⟩
        go_upto_region 6 with fail
        go_cut [80] (fun s wx => s = .bool bad ∧ wx = wr)
        case first =>
          by_cases q1 : 60 < (g i).nm.length
          · have q1' : (60 : Int) < ((g i).nm.length : Int) := by omega
            obtain rfl : true = bad := by rw [← hbad]; symm; rw [decide_eq_true_eq]; unfold shHd; omega
            clear q1 hbad
            go_wp2_with fail
            go_meet
            exact ⟨rfl, rfl⟩
          have q1' : ¬ (60 : Int) < ((g i).nm.length : Int) := by omega
          by_cases q2 : 60 < (g i).t0.length
          · have q2' : (60 : Int) < ((g i).t0.length : Int) := by omega
            obtain rfl : true = bad := by rw [← hbad]; symm; rw [decide_eq_true_eq]; unfold shHd; omega
            clear q1 q2 hbad
            go_wp2_with fail
            go_meet
            exact ⟨rfl, rfl⟩
          have q2' : ¬ (60 : Int) < ((g i).t0.length : Int) := by omega
          by_cases q3 : 60 < (g i).t1.length
          · have q3' : (60 : Int) < ((g i).t1.length : Int) := by omega
            obtain rfl : true = bad := by rw [← hbad]; symm; rw [decide_eq_true_eq]; unfold shHd; omega
            clear q1 q2 q3 hbad
            go_wp2_with fail
            go_meet
            exact ⟨rfl, rfl⟩
          have q3' : ¬ (60 : Int) < ((g i).t1.length : Int) := by omega
          by_cases q4 : 6 < (g i).k
          · have q4' : (6 : Int) < ((g i).k : Int) := by omega
            by_cases q5 : (g i).k ≤ 60
            · have q5' : ((g i).k : Int) ≤ 60 := by omega
              obtain rfl : true = bad := by rw [← hbad]; symm; rw [decide_eq_true_eq]; unfold shHd; omega
              clear q1 q2 q3 q4 q5 hbad
              go_wp2_with fail
              go_meet
              exact ⟨rfl, rfl⟩
            have q5' : ¬ ((g i).k : Int) ≤ 60 := by omega
            by_cases q6 : 62 < (g i).k
            · have q6' : (62 : Int) < ((g i).k : Int) := by omega
              obtain rfl : true = bad := by rw [← hbad]; symm; rw [decide_eq_true_eq]; unfold shHd; omega
              clear q1 q2 q3 q4 q5 q6 hbad
              go_wp2_with fail
              go_meet
              exact ⟨rfl, rfl⟩
            have q6' : ¬ (62 : Int) < ((g i).k : Int) := by omega
            obtain rfl : false = bad := by rw [← hbad]; symm; rw [decide_eq_false_iff_not]; unfold shHd; omega
            clear q1 q2 q3 q4 q5 q6 hbad
            go_wp2_with fail
            go_meet
            exact ⟨rfl, rfl⟩
          have q4' : ¬ (6 : Int) < ((g i).k : Int) := by omega
          have q6' : ¬ (62 : Int) < ((g i).k : Int) := by omega
          obtain rfl : false = bad := by rw [← hbad]; symm; rw [decide_eq_false_iff_not]; unfold shHd; omega
          clear q1 q2 q3 q4 hbad
          go_wp2_with fail
          go_meet
          exact ⟨rfl, rfl⟩
        case rest =>
          obtain ⟨rfl, rfl⟩ := hcut
          cases bad with
          | true =>
            clear hbad
            go_wp2_with fail
            go_ret
            exact ⟨⟨_, rfl, fun h => by cases h⟩, rfl⟩
          | false =>
          rw [decide_eq_false_iff_not, Classical.not_not] at hbad
          have hk62 := hbad.2.2.2.2
          have HOK := Lib.hid hbad
          clear hbad p0 p3 p4 s0 s1 s2
          have HE : Hid (∀ j, j < 0 → shLn ((g i).l j)) := Lib.hid fun i hi => absurd hi (Nat.not_lt_zero _)
          go_wp2_with fail
          go_loopw [6] (fun s wx => ∃ j : Nat, j ≤ (g i).k ∧ s = .int .i64 j ∧ Hid (∀ j', j' < j → shLn ((g i).l j')) ∧ wx = wc) (fun s _ => (g i).k - (numOf' s).toNat)
          case atStart => exact ⟨0, Nat.zero_le _, rfl, HE, rfl⟩
          case round =>
            clear HE
            obtain ⟨j, hj, rfl, hE2, rfl⟩ := hrel
            by_cases hjk : j < (g i).k
            · obtain ⟨b2, off2, c2, e2, -, r0, r1, -⟩ := hli.at hjk
              simp only [Value.slice.injEq, true_and] at e2
              obtain ⟨rfl, rfl⟩ := e2
              have hjj : (j : Int) < ((g i).k : Int) := by omega
              have s0 : (bA ((g i).l j).p).size = ((g i).l j).p.length := bA_size _
              have s1 : (bA ((g i).l j).t).size = ((g i).l j).t.length := bA_size _
              by_cases q1 : 60 < ((g i).l j).p.length
              · have q1' : (60 : Int) < (((g i).l j).p.length : Int) := by omega
                clear q1
                go_wp2_with fail
                go_ret
                exact ⟨⟨_, rfl, fun h => by cases h⟩, rfl⟩
              have q1' : ¬ (60 : Int) < (((g i).l j).p.length : Int) := by omega
              by_cases q2 : 60 < ((g i).l j).t.length
              · have q2' : (60 : Int) < (((g i).l j).t.length : Int) := by omega
                clear q1 q2
                go_wp2_with fail
                go_ret
                exact ⟨⟨_, rfl, fun h => by cases h⟩, rfl⟩
              have q2' : ¬ (60 : Int) < (((g i).l j).t.length : Int) := by omega
              have hE3 : Hid (∀ j', j' < j + 1 → shLn ((g i).l j')) := Lib.hid fun j' h' => by
                rcases Nat.lt_succ_iff_lt_or_eq.1 h' with q | rfl
                · exact hE2.out j' q
                · exact ⟨by omega, by omega⟩
              clear q1 q2 hE2
              go_wp2_with fail
              go_roundw
              case rel => exact ⟨j + 1, by omega, by go_num, hE3, by first | trivial | rfl | assumption⟩
              case measure => simp [numOf'] <;> omega
            · obtain rfl : j = (g i).k := by omega
              have hE3 : Hid (∀ i', i' < i + 1 → shGm (g i')) := Lib.hid fun i' h' => by
                rcases Nat.lt_succ_iff_lt_or_eq.1 h' with q | rfl
                · exact hE.out i' q
                · exact ⟨HOK.out, hE2.out⟩
              clear hE hE2 HOK
              go_wp2_with fail
              go_roundw
              case rel => exact ⟨i + 1, by omega, by go_num, hE3, by first | trivial | rfl | assumption⟩
              case measure => simp [numOf'] <;> omega
      · obtain rfl : i = n := by omega
        have HF : Hid (ShortOk N g i) := Lib.hid ⟨HQ.out.1, HQ.out.2, hE.out⟩
        clear hE
        go_wp2_with fail
        go_ret
        exact ⟨⟨_, rfl, fun _ => HF.out⟩, rfl⟩
end Go.Proofs.Tryz

namespace Go.Proofs.Tryz
open Go Go.Am Go.RowKit Go.Op
set_option maxRecDepth 100000

theorem Laid.below {w w' : World} (h : Laid w) (hb : Below w.heap.size w w') : Laid w' :=
  ⟨Nat.lt_of_lt_of_le h.1 hb.size, fun o v hv => (hb.cell (cell_under (h.2 o v hv))).trans (h.2 o v hv)⟩
theorem fn15 : cx.fn 15 = some f15 := by kernel_rfl
theorem hasBody15 : f15.body.isSome = true := by kernel_rfl
theorem awake_w {w : World} (h : Laid w) : Calls prog 15 #[] w fun e w' => e = .returned (.bool true) ∧ Below w.heap.size w w' := by
  obtain ⟨c, hc⟩ := Option.isSome_iff_exists.1 hasBody15
  refine (CallRet.calls fn15 hc (awake h)).mono fun e W' ⟨v, he, hv, hk⟩ => ?_
  subst hv
  exact ⟨he, hk.below⟩
theorem book_of {g : Nat → GmD} {n : Nat} {v : Value} {w : World} (h : IsGames w v g n) (hn : n ≤ 1000) (hk : ∀ i, i < n → (g i).k ≤ 1000) :
    Calls prog 18 #[v] w fun e w' => (∃ u, e = .returned (.agg #[u]) ∧ OwnGames w' w.heap.size 110 132 u g n) ∧ Below w.heap.size w w' := by
  have hb0 : ∀ o, Below w.heap.size w (w.alloc o) := fun o => (Below.refl _ _).alloc (Nat.le_refl _) _
  have cO := own_w (h.below (hb0 (.cells #[.slice none 0 0] 31))) hn hk
  have hx := at_new w #[.slice none 0 0] 31
  have hz0 := hb0 (.cells #[.slice none 0 0] 31)
  obtain ⟨W1, hW⟩ : ∃ W1, w.alloc (.cells #[.slice none 0 0] 31) = W1 := ⟨_, rfl⟩
  rw [hW] at cO hx hz0
  clear h hk
  go_enter func18, ntmps18
  go_wp2_with fail
  try rw [hW]
  go_at_call 20
  refine cO.mono ?_
  rintro e w2 ⟨⟨u, rfl, hu⟩, hb⟩
  obtain ⟨a5, c5, rfl⟩ := hu.slice
  have hx2 := hx.below hb hx.lt
  obtain ⟨y0, f0⟩ := box1 hx2
  have hb2 := hz0.trans (hb.mono hz0.size)
  have hb3 := fun v => hb2.setCell (p := ⟨w.heap.size, 0, none⟩) (Nat.le_refl _) v
  have hx3 := hx2.set 0 (.slice a5 n c5)
  obtain ⟨y1, f1⟩ := box1 hx3
  have hu3 : OwnGames (w2.setCell ⟨w.heap.size, 0, none⟩ (.slice a5 n c5)) w.heap.size 110 132 (.slice a5 n c5) g n := by
    obtain ⟨lv, h1, h2⟩ := hu
    exact ⟨lv, (h1.setCell hx2 (by decide) _ _).mono hz0.size, fun i hi => (OwnRow.setCell (h2 i hi) hx2 (by decide) _ _).mono hz0.size⟩
  clear cO hx hz0 hb hu hW hx2 hx3 hb0
  go_wp2_with fail
  refine bodyPost_ret (by simp [results, go_sem, y1]; rfl) rfl ?_
  exact ⟨⟨_, rfl, hu3⟩, hb3 _⟩
end Go.Proofs.Tryz

namespace Go.Proofs.Tryz
open Go Go.Am Go.RowKit Go.Op
set_option maxRecDepth 100000

/-- What valid lets pass. -/
def ValidOk (g : Nat → GmD) (n : Nat) : Prop := n ≤ 6 ∧ ShortOk 6 g n ∧ bookE g n = 0
set_option maxHeartbeats 1600000 in
theorem valid_w {g : Nat → GmD} {n : Nat} {v : Value} {w : World} (h : IsGames w v g n) :
    Calls prog 53 #[v] w fun e w' => AnsB e (ValidOk g n) ∧ Below w.heap.size w w' := by
  have c16 := short_w h 6
  have HV := Lib.hid h
  obtain ⟨lv, hr, -⟩ := h
  obtain ⟨ad, c, rfl, hnc⟩ := hr.slice
  clear hr
  by_cases hn : n ≤ 6
  · have hn' : (n : Int) ≤ 6 := by omega
    go_enter func53, ntmps53
    go_wp2_with fail
    go_at_call 16
    refine c16.mono ?_
    rintro e W1 ⟨⟨b1, rfl, h1⟩, rfl⟩
    cases b1 with
    | false =>
      clear c16 h1
      have hrf := Below.refl W1.heap.size W1
      go_wp2_with fail
      go_ret
      exact ⟨⟨false, rfl, fun h => by cases h⟩, hrf⟩
    | true =>
      have hsh := h1 rfl
      have c21 := bookR_w HV.out (fun i hi => Nat.le_trans (hsh.2.2 i hi).1.2.2.2.2 (by decide))
      obtain ⟨E, hE⟩ : ∃ E, bookE g n = E := ⟨_, rfl⟩
      rw [hE] at c21
      have HS := Lib.hid (And.intro hn (And.intro hsh hE))
      clear c16 h1 hsh hn hE
      go_wp2_with fail
      go_at_call 21
      refine c21.mono ?_
      rintro e W2 ⟨rfl, hb⟩
      clear c21
      by_cases hE0 : E = 0
      · have hfin : AnsB (.returned (.bool true)) (ValidOk g n) := ⟨true, rfl, fun _ => ⟨HS.out.1, HS.out.2.1, HS.out.2.2.trans hE0⟩⟩
        have HF := Lib.hid hfin
        have hq : (E == 0) = true := by simpa using hE0
        clear hfin hE0 HS
        go_wp2_with fail
        go_ret
        exact ⟨HF.out, hb⟩
      · have hfin : AnsB (.returned (.bool false)) (ValidOk g n) := ⟨false, rfl, fun h => by cases h⟩
        have HF := Lib.hid hfin
        have hq : (E == 0) = false := by simpa using hE0
        clear hfin hE0 HS
        go_wp2_with fail
        go_ret
        exact ⟨HF.out, hb⟩
  · have hn' : ¬ (n : Int) ≤ 6 := by omega
    have hfin : AnsB (.returned (.bool false)) (ValidOk g n) := ⟨false, rfl, fun h => by cases h⟩
    have HF := Lib.hid hfin
    have hrf := Below.refl w.heap.size w
    clear hfin c16
    go_enter func53, ntmps53
    go_wp2_with fail
    go_ret
    exact ⟨HF.out, hrf⟩

/-! ### plain -/
theorem chkS_ok {s : Std} {m : Nat} (hm : m ≤ 10000) (hn : isNm s.t = true) (h : SmS m s) : chkS s = 0 := by
  obtain ⟨h1, h2, h3, h4, h5⟩ := h
  have key : ∀ x : Int, 0 ≤ x ∧ x ≤ 999 * m → inE x 0 999999999 = 0 := fun x hx => by
    unfold inE
    rw [if_neg (by omega)]
  have e : chkS s = fstE [nmE s.t, inE s.w 0 999999999, inE s.l 0 999999999, inE s.d 0 999999999, inE s.f 0 999999999, inE s.a 0 999999999] := rfl
  rw [e, key s.w (by omega), key s.l (by omega), key s.d (by omega), key s.f (by omega), key s.a (by omega)]
  unfold nmE
  rw [if_pos hn]
  rfl
theorem behV_ok {x y : Std} (hx : chkS x = 0) (hy : chkS y = 0) : behE x y = 0 ∧ behV x y = x.w - y.w + y.l - x.l := by
  have : behE x y = 0 := by unfold behE; rw [hx, hy]; rfl
  exact ⟨this, if_pos this⟩
theorem sumS_le {f : Std → Int} {b : Int} (hb : 0 ≤ b) : ∀ {L : List Std}, (∀ s ∈ L, -b ≤ f s ∧ f s ≤ b) → -(b * L.length) ≤ sumS f L ∧ sumS f L ≤ b * L.length
  | [], _ => by simp [sumS]
  | x :: r, h => by
    have h1 := h x (by simp)
    have h2 := sumS_le hb (L := r) fun s hs => h s (by simp [hs])
    have e : b * ((x :: r).length : Int) = b * r.length + b := by
      rw [List.length_cons, Int.natCast_add, Int.mul_add]; simp
    rw [e]
    show -(b * (r.length : Int) + b) ≤ f x + sumS f r ∧ f x + sumS f r ≤ b * (r.length : Int) + b
    omega
theorem sumS_take {f : Std → Int} {S : List Std} {i : Nat} {x : Std} (h : S[i]? = some x) : sumS f (S.take (i + 1)) = sumS f (S.take i) + f x := by
  rw [List.take_add_one, h]
  exact sumS_snoc f _ x
/-- The standing with wins and losses exchanged is in the list of the exchanged games, and no other one of its team. -/
theorem swap_in {F T S : List Std} (hF : NamesS F) (hT : T.Perm (F.map swapS)) (hS : S.Perm F) {x : Std} (hx : x ∈ S) : (∃ y ∈ T, y.t = x.t) ∧ ∀ y ∈ T, y.t = x.t → y = swapS x := by
  have hxF := hS.subset hx
  refine ⟨⟨swapS x, hT.symm.subset (List.mem_map.2 ⟨x, hxF, rfl⟩), rfl⟩, fun y hy e => ?_⟩
  obtain ⟨z, hz, rfl⟩ := List.mem_map.1 (hT.subset hy)
  have e1 := getS_get hF hz
  have e2 := getS_get hF hxF
  have e3 : z.t = x.t := e
  rw [e3, e2] at e1
  rw [Option.some.inj e1]
/-- Neighbours in a sorted list. -/
theorem sort_next {S : List Std} (h : SortS S) {i : Nat} {y x : Std} (hy : S[i]? = some y) (hx : S[i + 1]? = some x) : ltS y x := by
  obtain ⟨h1, rfl⟩ := List.getElem?_eq_some_iff.1 hy
  obtain ⟨h2, rfl⟩ := List.getElem?_eq_some_iff.1 hx
  exact (List.pairwise_iff_getElem.1 h) i (i + 1) h1 h2 (by omega)
/-- What is asked of neighbours, by numbers. -/
theorem ltS_cases {y x : Std} (h : ltS y x) : x.w * nS y < y.w * nS x ∨ (y.w * nS x = x.w * nS y ∧ (x.f - x.a < y.f - y.a ∨ (y.f - y.a = x.f - x.a ∧ bytesLess y.t x.t = true))) := by
  unfold ltS leW lt2 at h
  rcases h with h | ⟨h1, h2⟩
  · left; omega
  · by_cases q : x.w * nS y < y.w * nS x
    · exact .inl q
    · exact .inr ⟨by omega, h2⟩
end Go.Proofs.Tryz
