/- On the play seat's program: what the rows' condition gives; ratios opened. On the seat of the open Play statements: plays and moves that are handed, opened. On the seat of the open Play statements: arguments of the rows, opened. On the seat of the open Play statements: more arguments of the rows, opened. -/
import Derived.Test.YthlmjjdlmidnlaaGreatDoorRows
import Derived.ProofKit
import Derived.LaidMore
import Derived.OpenShut
import Derived.Carry
import Derived.Lay
import Derived.Stop.Joined
import Derived.Test.YthlmjjdlmidnlaaGreatDoorArZa
import Derived.Test.YthlmjjdlmidnlaaGreatDoorArE
namespace Go.Proofs.Tryz
open Go Go.Am Go.ChangeShapes Go.WideShapes Go.ChangeAt Go.RowKit
set_option maxRecDepth 100000

theorem own : ownKnob prog.godebug = none := by kernel_rfl
theorem laidOut : laidOutB prog = true := by kernel_rfl
theorem gSafe : prog.globalNamed "dugout/play.safe" = some 1 := by kernel_rfl
theorem gOuts : prog.globalNamed "dugout/play.outs" = some 0 := by kernel_rfl
theorem tSafe : (prog.globals[1]?).map (·.type) = some 161 := by kernel_rfl
theorem tOuts : (prog.globals[0]?).map (·.type) = some 161 := by kernel_rfl
theorem u161 : prog.underlying 161 = some (.array 7 118) := by kernel_rfl
def way118 : Array Field := #[{ name := "letter", type := 5, offset := 0, embedded := false, tag := "", pkgPath := "dugout/play", byteOffset := 0 }, { name := "batter", type := 3, offset := 1, embedded := false, tag := "", pkgPath := "dugout/play", byteOffset := 8 },
  { name := "least", type := 3, offset := 2, embedded := false, tag := "", pkgPath := "dugout/play", byteOffset := 16 }, { name := "most", type := 3, offset := 3, embedded := false, tag := "", pkgPath := "dugout/play", byteOffset := 24 }]
theorem u118 : prog.underlying 118 = some (.struct way118) := by kernel_rfl
theorem u5 : prog.underlying 5 = some (.int .u8) := by kernel_rfl
theorem u3 : prog.underlying 3 = some (.int .i64) := by kernel_rfl
theorem c5 : prog.cellsOf 5 = 1 := by kernel_rfl
theorem c3 : prog.cellsOf 3 = 1 := by kernel_rfl
theorem c118 : prog.cellsOf 118 = 4 := by kernel_rfl

section
variable {H : Type} {enc : TypeId × Value → H} {w : World} {base : Nat} {spare : Nat → Bool} {held : Bool}

def wayD (q : Int × Int × Int × Int) : DataW H := .agg [.lit (.int .u8 q.1), .lit (.int .i64 q.2.1), .lit (.int .i64 q.2.2.1), .lit (.int .i64 q.2.2.2)]
def wayL (q : Int × Int × Int × Int) : List Value := [.int .u8 q.1, .int .i64 q.2.1, .int .i64 q.2.2.1, .int .i64 q.2.2.2]

theorem way_cells {fuel : Nat} {cs : List Value} {x : DataW H × List MemPlace} (h : DataW.trod enc prog w base spare held fuel 118 cs = some x) {q : Int × Int × Int × Int} (hx : x.1 = wayD q) : cs = wayL q := by
  obtain ⟨ys, n, _, hxe, hl, hn, hf⟩ := DataW.trod_struct u118 h
  rw [c118] at hl
  rw [hxe] at hx
  simp only [wayD, DataW.agg.injEq] at hx
  match cs, hl with
  | [v0, v1, v2, v3], _ =>
    have k0 : DataW.trod enc prog w base spare held n 5 (([v0, v1, v2, v3].drop 0).take (prog.cellsOf 5)) = ys[0]? := hf 0 _ rfl
    have k1 : DataW.trod enc prog w base spare held n 3 (([v0, v1, v2, v3].drop 1).take (prog.cellsOf 3)) = ys[1]? := hf 1 _ rfl
    have k2 : DataW.trod enc prog w base spare held n 3 (([v0, v1, v2, v3].drop 2).take (prog.cellsOf 3)) = ys[2]? := hf 2 _ rfl
    have k3 : DataW.trod enc prog w base spare held n 3 (([v0, v1, v2, v3].drop 3).take (prog.cellsOf 3)) = ys[3]? := hf 3 _ rfl
    rw [c5] at k0
    rw [c3] at k1 k2 k3
    match ys, hn with
    | [y0, y1, y2, y3], _ =>
      obtain ⟨n0, a0, b0, _⟩ := DataW.trod_int u5 k0
      obtain ⟨n1, a1, b1, _⟩ := DataW.trod_int u3 k1
      obtain ⟨n2, a2, b2, _⟩ := DataW.trod_int u3 k2
      obtain ⟨n3, a3, b3, _⟩ := DataW.trod_int u3 k3
      subst b0 b1 b2 b3
      simp only [List.map_cons, List.map_nil, List.cons.injEq, DataW.lit.injEq, Lit.int.injEq, true_and, and_true] at hx
      obtain ⟨h0, h1, h2, h3⟩ := hx
      simp at a0 a1 a2 a3
      rw [a0, a1, a2, a3, h0, h1, h2, h3]; rfl

theorem ways_cells {cs : Array Value} {fuel : Nat} {x : DataW H × List MemPlace} (h : DataW.trod enc prog w base spare held fuel 161 cs.toList = some x) {D : List (Int × Int × Int × Int)} (hD : D.length = 7) (hx : x.1 = .agg (D.map wayD)) :
    ∀ i j q, D[i]? = some q → j < 4 → cs[i * 4 + j]? = (wayL q)[j]? := by
  obtain ⟨xs, m, _, hxe, hl, hn, hel⟩ := DataW.trod_array u161 h
  rw [hxe] at hx
  simp only [DataW.agg.injEq] at hx
  intro i j q hq hj
  have hi : i < 7 := by rw [← hD]; exact (List.getElem?_eq_some_iff.1 hq).1
  have he := hel i hi
  rw [c118] at he
  have hxi : (xs.map (·.1))[i]? = some (wayD q) := by rw [hx, List.getElem?_map, hq]; rfl
  rw [List.getElem?_map] at hxi
  cases hy : xs[i]? with
  | none => rw [hy] at hxi; cases hxi
  | some y =>
    rw [hy] at he hxi
    have := way_cells he (Option.some.inj hxi)
    rw [← this, List.getElem?_take, if_pos hj, List.getElem?_drop, Array.getElem?_toList]
end

def safeD : List (Int × Int × Int × Int) := [(98, 4, 1, 4), (97, 4, 1, 4), (115, -1, 1, 4), (112, 4, 1, 4), (107, -1, 1, 4), (116, 4, 1, 4), (111, 4, 1, 4)]
def outsD : List (Int × Int × Int × Int) := [(102, 1, 1, 1), (103, 4, 0, 4), (99, 1, 0, -1), (100, -1, 0, 0), (107, 1, 0, -1), (110, 1, 1, 4), (121, 1, 0, -1)]
theorem safe_at : ∀ i j, i < 7 → j < 4 → ∃ q, safeD[i]? = some q ∧ safeT[i * 4 + j]? = (wayL q)[j]? := by
  intro i j hi hj
  have hi' : i = 0 ∨ i = 1 ∨ i = 2 ∨ i = 3 ∨ i = 4 ∨ i = 5 ∨ i = 6 := by omega
  have hj' : j = 0 ∨ j = 1 ∨ j = 2 ∨ j = 3 := by omega
  rcases hi' with rfl | rfl | rfl | rfl | rfl | rfl | rfl <;> rcases hj' with rfl | rfl | rfl | rfl <;> exact ⟨_, rfl, rfl⟩
theorem outs_at : ∀ i j, i < 7 → j < 4 → ∃ q, outsD[i]? = some q ∧ outsT[i * 4 + j]? = (wayL q)[j]? := by
  intro i j hi hj
  have hi' : i = 0 ∨ i = 1 ∨ i = 2 ∨ i = 3 ∨ i = 4 ∨ i = 5 ∨ i = 6 := by omega
  have hj' : j = 0 ∨ j = 1 ∨ j = 2 ∨ j = 3 := by omega
  rcases hi' with rfl | rfl | rfl | rfl | rfl | rfl | rfl <;> rcases hj' with rfl | rfl | rfl | rfl <;> exact ⟨_, rfl, rfl⟩

/-- The heap's first lines: what the rows' condition lays. -/
theorem of_laid {W : World} (h : laidMetH prog YthlmjjdlmidnlaaGreatDoor.Rows.playFormsRow.laid W) : Laid W := by
  rw [MakeChecks.laidMetH_plain _ _ _ (by kernel_rfl)] at h
  obtain ⟨ps, ⟨g0, t0', cs0, f0, p0, q0, hg0, ht0, hv0, hd0, ⟨g1, t1', cs1, f1, p1, q1, hg1, ht1, hv1, hd1, ⟨g2, t2', cs2, f2, p2, q2, hg2, ht2, hv2, hd2, _, _⟩, _⟩, _⟩, _, _⟩ := h
  obtain rfl := Option.some.inj (gSafe.symm.trans hg1)
  obtain rfl := Option.some.inj (tSafe.symm.trans ht1)
  obtain rfl := Option.some.inj (gOuts.symm.trans hg2)
  obtain rfl := Option.some.inj (tOuts.symm.trans ht2)
  have k1 := ways_cells (D := safeD) hd1 rfl rfl
  have k2 := ways_cells (D := outsD) hd2 rfl rfl
  intro b o v hv
  unfold baseOf at hv
  cases hb : Nat.beq b 0 with
  | true =>
    rw [hb] at hv
    have := Nat.eq_of_beq_eq_true hb; subst this
    simp only [cond_true] at hv
    have hlt : o < 28 := (List.getElem?_eq_some_iff.1 hv).1
    obtain ⟨q, e1, e2⟩ := outs_at (o / 4) (o % 4) (by omega) (by omega)
    have eo : o / 4 * 4 + o % 4 = o := by omega
    rw [eo] at e2
    rw [World.var?_cell hg2 hv2 o]
    have := k2 (o / 4) (o % 4) q e1 (by omega)
    rw [eo] at this
    rw [this, ← e2]; exact hv
  | false =>
    rw [hb] at hv
    simp only [cond_false] at hv
    cases hb1 : Nat.beq b 1 with
    | false => rw [hb1] at hv; cases hv
    | true =>
      rw [hb1] at hv
      have := Nat.eq_of_beq_eq_true hb1; subst this
      simp only [cond_true] at hv
      have hlt : o < 28 := (List.getElem?_eq_some_iff.1 hv).1
      obtain ⟨q, e1, e2⟩ := safe_at (o / 4) (o % 4) (by omega) (by omega)
      have eo : o / 4 * 4 + o % 4 = o := by omega
      rw [eo] at e2
      rw [World.var?_cell hg1 hv1 o]
      have := k1 (o / 4) (o % 4) q e1 (by omega)
      rw [eo] at this
      rw [this, ← e2]; exact hv

theorem CallRet.calls {f : FuncId} {F : Func} {c : Code} (hf : cx.fn f = some F) (hb : F.body = some c) {args : Array Value} {w : World} {Ψ : Value → World → Prop} (h : CallRet prog f args w Ψ) : Calls prog f args w fun e w' => ∃ v, e = .returned v ∧ Ψ v w' := by
  rcases h with ⟨v, w', h1, _⟩ | ⟨_, h2⟩
  · rw [callFunc_enter cxOk hf hb args w] at h1; cases h1
  · exact h2

theorem laid_shaped (os : Os) : (World.laidAll prog os YthlmjjdlmidnlaaGreatDoor.Rows.playFormsRow.laid).Shaped prog := World.shaped_of_ZipB (by kernel_rfl) (by kernel_rfl)
theorem laid_met (os : Os) (args : Array Value) : laidMetH prog YthlmjjdlmidnlaaGreatDoor.Rows.playFormsRow.laid ((World.laidAll prog os YthlmjjdlmidnlaaGreatDoor.Rows.playFormsRow.laid).forCall (fun _ _ => 0) ⟨#[], args, []⟩).memory := by
  rw [MakeChecks.laidMetH_plain _ _ _ (by kernel_rfl)]; exact laidMet_laidAll _ (by kernel_rfl) (by kernel_rfl)
end Go.Proofs.Tryz

namespace Go.Proofs.Tryz
open Go Go.Am Go.ChangeShapes Go.WideShapes Go.ChangeAt Go.RowKit
set_option maxRecDepth 100000

theorem u9 : prog.underlying 9 = some .string := by kernel_rfl
theorem u4 : prog.underlying 4 = some .bool := by kernel_rfl
theorem u25 : prog.underlying 25 = some (.slice 3) := by kernel_rfl
theorem u22 : prog.underlying 22 = some (.slice 27) := by kernel_rfl
noncomputable def fs24 : Array Field := match prog.underlying 24 with | some (.struct fs) => fs | _ => #[]
noncomputable def fs27 : Array Field := match prog.underlying 27 with | some (.struct fs) => fs | _ => #[]
theorem u24 : prog.underlying 24 = some (.struct fs24) := by kernel_rfl
theorem u27 : prog.underlying 27 = some (.struct fs27) := by kernel_rfl
theorem n24 : fs24.size = 4 := by kernel_rfl
theorem n27 : fs27.size = 5 := by kernel_rfl
theorem tt24 : (fs24.toList.map fun f => (f.type, f.offset)) = [(9, 0), (9, 1), (4, 2), (22, 3)] := by kernel_rfl
theorem tt27 : (fs27.toList.map fun f => (f.type, f.offset)) = [(3, 0), (3, 1), (4, 2), (9, 3), (25, 4)] := by kernel_rfl
theorem c24 : prog.cellsOf 24 = 4 := by kernel_rfl
theorem c27 : prog.cellsOf 27 = 5 := by kernel_rfl
theorem c9 : prog.cellsOf 9 = 1 := by kernel_rfl
theorem c4 : prog.cellsOf 4 = 1 := by kernel_rfl
theorem c25 : prog.cellsOf 25 = 1 := by kernel_rfl
theorem c22 : prog.cellsOf 22 = 1 := by kernel_rfl

theorem field_at {fs : Array Field} {l : List (TypeId × Nat)} (h : (fs.toList.map fun f => (f.type, f.offset)) = l) {i : Nat} {t o : Nat} (hi : l[i]? = some (t, o)) : ∃ f, fs[i]? = some f ∧ f.type = t ∧ f.offset = o := by
  rw [← h, List.getElem?_map, Option.map_eq_some_iff] at hi
  obtain ⟨f, h1, h2⟩ := hi
  simp only [Prod.mk.injEq] at h2
  exact ⟨f, by simpa using h1, h2.1, h2.2⟩

theorem spot_none {w : World} {a : Addr} {v : Value} (h : w.cell? a = some v) : a = ⟨a.block, a.off, none⟩ := by
  unfold World.cell? at h
  split at h
  · cases hs : a.spot with
    | none => obtain ⟨b, o, s⟩ := a; simp only at hs; subst hs; rfl
    | some x => rw [hs] at h; simp at h
  · cases h

section
variable {H : Type} {enc : TypeId × Value → H} {w : World} {base : Nat} {spare : Nat → Bool} {held : Bool}

theorem str_open (s : ByteArray) : IsStr (.string s) (fun j => ((s.data.toList.getD j.toNat 0).toNat : Int)) 0 s.data.toList.length := by
  refine ⟨s.data.toList, by simp, rfl, fun j b hb => ?_⟩
  have : (0 + (j : Int)).toNat = j := by omega
  simp only [this, List.getD_eq_getElem?_getD, hb, Option.getD_some]

theorem ints_open {fuel : Nat} {v : Value} {x : DataW H × List MemPlace} (h : DataW.trod enc prog w base spare held fuel 25 [v] = some x) : ∃ (t : Int → Int) (n : Int), IsInts w v t 0 n := by
  rcases DataW.trod_slice u25 h with ⟨h1, _⟩ | ⟨a, len, cap, elems, rest, m, _, h1, _, _, hlc, _, hlen, hel, _⟩
  · simp only [List.cons.injEq, and_true] at h1
    subst h1
    exact ⟨fun _ => 0, 0, none, 0, 0, rfl, Nat.le_refl _, rfl, fun h => absurd rfl h⟩
  · simp only [List.cons.injEq, and_true] at h1
    subst h1
    have each : ∀ i, i < len → ∃ n, w.cell? (a.add i) = some (.int .i64 n) := fun i hi => by
      have h3 := hel i hi
      rw [c3, Nat.mul_one] at h3
      have hi' : i < elems.length := by omega
      rw [List.getElem?_eq_getElem hi', Option.bind_eq_some_iff] at h3
      obtain ⟨cs, hcs, h4⟩ := h3
      obtain ⟨n, rfl, _⟩ := DataW.trod_int u3 h4
      exact ⟨n, cell_of_cells?_one hcs⟩
    refine ⟨fun j => match w.cell? (a.add j.toNat) with | some (.int .i64 n) => n | _ => 0, len, some a, len, cap, rfl, hlc, rfl, fun h0 => ?_⟩
    obtain ⟨n0, hn0⟩ := each 0 (by omega)
    have ha : a = ⟨a.block, a.off, none⟩ := by
      have : a.add 0 = a := by simp [Addr.add]
      rw [this] at hn0; exact spot_none hn0
    refine ⟨a.block, a.off, by rw [← ha], fun j hj => ?_⟩
    obtain ⟨n, hn⟩ := each j hj
    have e : (0 + (j : Int)).toNat = j := by omega
    simp only [e, hn]
    rw [ha, add_adr] at hn
    exact hn

theorem move_open {fuel : Nat} {cs : List Value} {x : DataW H × List MemPlace} (h : DataW.trod enc prog w base spare held fuel 27 cs = some x) :
    ∃ (m : MvD) (sv bv : Value), cs = [vi m.fr, vi m.to, .bool (decide (m.x ≠ 0)), sv, bv] ∧ IsStr sv m.y m.so m.sn ∧ IsInts w bv m.t m.bo m.bn := by
  obtain ⟨ys, n, _, _, hl, hn, hf⟩ := DataW.trod_struct u27 h
  rw [c27] at hl
  rw [n27] at hn
  match cs, hl with
  | [v0, v1, v2, v3, v4], _ =>
    match ys, hn with
    | [z0, z1, z2, z3, z4], _ =>
      obtain ⟨f0, a0, b0, d0⟩ := field_at tt27 (i := 0) (t := 3) (o := 0) rfl
      obtain ⟨f1, a1, b1, d1⟩ := field_at tt27 (i := 1) (t := 3) (o := 1) rfl
      obtain ⟨f2, a2, b2, d2⟩ := field_at tt27 (i := 2) (t := 4) (o := 2) rfl
      obtain ⟨f3, a3, b3, d3⟩ := field_at tt27 (i := 3) (t := 9) (o := 3) rfl
      obtain ⟨f4, a4, b4, d4⟩ := field_at tt27 (i := 4) (t := 25) (o := 4) rfl
      have k0 := hf 0 f0 a0
      have k1 := hf 1 f1 a1
      have k2 := hf 2 f2 a2
      have k3 := hf 3 f3 a3
      have k4 := hf 4 f4 a4
      rw [b0, d0, c3] at k0
      rw [b1, d1, c3] at k1
      rw [b2, d2, c4] at k2
      rw [b3, d3, c9] at k3
      rw [b4, d4, c25] at k4
      obtain ⟨p0, e0, _⟩ := DataW.trod_int u3 (show _ = some z0 from k0)
      obtain ⟨p1, e1, _⟩ := DataW.trod_int u3 (show _ = some z1 from k1)
      obtain ⟨p2, e2, _⟩ := DataW.trod_bool u4 (show _ = some z2 from k2)
      obtain ⟨p3, e3, _⟩ := DataW.trod_string u9 (show _ = some z3 from k3)
      obtain ⟨t, bn, hb⟩ := ints_open (show DataW.trod enc prog w base spare held n 25 [v4] = some z4 from k4)
      simp at e0 e1 e2 e3
      subst e0 e1 e2 e3
      refine ⟨⟨p0, p1, bif p2 then 1 else 0, fun j => ((p3.data.toList.getD j.toNat 0).toNat : Int), 0, p3.data.toList.length, t, 0, bn⟩, _, _, ?_, str_open p3, hb⟩
      cases p2 <;> rfl

theorem moves_open {fuel : Nat} {v : Value} {x : DataW H × List MemPlace} (h : DataW.trod enc prog w base spare held fuel 22 [v] = some x) : ∃ (d : Nat → MvD) (n : Nat), IsMoves w v d n := by
  rcases DataW.trod_slice u22 h with ⟨h1, _⟩ | ⟨a, len, cap, elems, rest, m, _, h1, _, _, hlc, _, hlen, hel, _⟩
  · simp only [List.cons.injEq, and_true] at h1
    subst h1
    exact ⟨fun _ => ⟨0, 0, 0, fun _ => 0, 0, 0, fun _ => 0, 0, 0⟩, 0, none, 0, rfl, Nat.le_refl _, fun h => absurd rfl h⟩
  · simp only [List.cons.injEq, and_true] at h1
    subst h1
    have each : ∀ i, i < len → ∃ (m : MvD), (a.add (i * 5) = ⟨(a.add (i * 5)).block, (a.add (i * 5)).off, none⟩) ∧ ∃ sv bv, (∀ j, j < 5 → w.cell? ((a.add (i * 5)).add j) = [vi m.fr, vi m.to, .bool (decide (m.x ≠ 0)), sv, bv][j]?) ∧ IsStr sv m.y m.so m.sn ∧ IsInts w bv m.t m.bo m.bn := fun i hi => by
      have h3 := hel i hi
      rw [c27] at h3
      have hi' : i < elems.length := by omega
      rw [List.getElem?_eq_getElem hi', Option.bind_eq_some_iff] at h3
      obtain ⟨cs, hcs, h4⟩ := h3
      obtain ⟨m, sv, bv, e, hs, hb⟩ := move_open h4
      have hc := (World.cells?_some hcs).2.2
      subst e
      refine ⟨m, ?_, sv, bv, hc, hs, hb⟩
      have h0 := hc 0 (by omega)
      have : (a.add (i * 5)).add 0 = a.add (i * 5) := by simp [Addr.add]
      rw [this] at h0
      exact spot_none h0
    refine ⟨fun i => if h : i < len then (each i h).choose else ⟨0, 0, 0, fun _ => 0, 0, 0, fun _ => 0, 0, 0⟩, len, some a, cap, rfl, hlc, fun h0 => ?_⟩
    have ha : a = ⟨a.block, a.off, none⟩ := by
      have := (each 0 (by omega)).choose_spec.1
      simpa [Addr.add] using this
    refine ⟨a.block, a.off, by rw [← ha], fun i hi => ?_⟩
    obtain ⟨_, sv, bv, hc, hs, hb⟩ := (each i hi).choose_spec
    simp only [dif_pos hi]
    refine ⟨sv, bv, ?_, hs, hb⟩
    have ea : ∀ j, (a.add (i * 5)).add j = ⟨a.block, a.off + 5 * i + j, none⟩ := fun j => by
      rw [ha, add_adr, add_adr, Nat.mul_comm i 5]
    have g0 := hc 0 (by omega)
    rw [ea 0] at g0
    have g1 := hc 1 (by omega)
    rw [ea 1] at g1
    have g2 := hc 2 (by omega)
    rw [ea 2] at g2
    have g3 := hc 3 (by omega)
    rw [ea 3] at g3
    have g4 := hc 4 (by omega)
    rw [ea 4] at g4
    simp only [Nat.add_zero, List.getElem?_cons_zero, List.getElem?_cons_succ] at g0 g1 g2 g3 g4
    simp only [cellsAt]
    rw [g0, g1, show a.off + 5 * i + 1 + 1 = a.off + 5 * i + 2 by omega, g2, show a.off + 5 * i + 2 + 1 = a.off + 5 * i + 3 by omega, g3, show a.off + 5 * i + 3 + 1 = a.off + 5 * i + 4 by omega, g4]

theorem play_open {fuel : Nat} {cs : List Value} {x : DataW H × List MemPlace} (h : DataW.trod enc prog w base spare held fuel 24 cs = some x) :
    ∃ (y0 y1 : Int → Int) (yn en lx : Int) (d : Nat → MvD) (n : Nat) (pvv ev mv : Value), cs = [pvv, ev, .bool (decide (lx ≠ 0)), mv] ∧ IsStr pvv y0 0 yn ∧ IsStr ev y1 0 en ∧ IsMoves w mv d n := by
  obtain ⟨ys, n, _, _, hl, hn, hf⟩ := DataW.trod_struct u24 h
  rw [c24] at hl
  rw [n24] at hn
  match cs, hl with
  | [v0, v1, v2, v3], _ =>
    match ys, hn with
    | [z0, z1, z2, z3], _ =>
      obtain ⟨f0, a0, b0, d0⟩ := field_at tt24 (i := 0) (t := 9) (o := 0) rfl
      obtain ⟨f1, a1, b1, d1⟩ := field_at tt24 (i := 1) (t := 9) (o := 1) rfl
      obtain ⟨f2, a2, b2, d2⟩ := field_at tt24 (i := 2) (t := 4) (o := 2) rfl
      obtain ⟨f3, a3, b3, d3⟩ := field_at tt24 (i := 3) (t := 22) (o := 3) rfl
      have k0 := hf 0 f0 a0
      have k1 := hf 1 f1 a1
      have k2 := hf 2 f2 a2
      have k3 := hf 3 f3 a3
      rw [b0, d0, c9] at k0
      rw [b1, d1, c9] at k1
      rw [b2, d2, c4] at k2
      rw [b3, d3, c22] at k3
      obtain ⟨p0, e0, _⟩ := DataW.trod_string u9 (show _ = some z0 from k0)
      obtain ⟨p1, e1, _⟩ := DataW.trod_string u9 (show _ = some z1 from k1)
      obtain ⟨p2, e2, _⟩ := DataW.trod_bool u4 (show _ = some z2 from k2)
      obtain ⟨d, nn, hm⟩ := moves_open (show DataW.trod enc prog w base spare held n 22 [v3] = some z3 from k3)
      simp at e0 e1 e2
      subst e0 e1 e2
      refine ⟨_, _, _, _, bif p2 then 1 else 0, d, nn, _, _, _, ?_, str_open p0, str_open p1, hm⟩
      cases p2 <;> rfl
end

/-- A structure's value is its cells. -/
theorem agg_of {W : World} {r : Reach} {b0 : Nat} {t : TypeId} {fs : Array Field} (ht : prog.underlying t = some (.struct fs)) {v : Value} (h : Value.okWide prog W r b0 t v) : ∃ cs : Array Value, v = .agg cs := by
  simp only [Value.okWide, ht] at h
  obtain ⟨cs, e, _⟩ := h
  exact ⟨cs, e⟩
end Go.Proofs.Tryz

namespace Go.Proofs.Tryz
open Go Go.Am Go.ChangeShapes Go.WideShapes Go.ChangeAt Go.RowKit
set_option maxRecDepth 100000

section
variable {H : Type} {enc : TypeId × Value → H} {w : World} {base : Nat} {spare : Nat → Bool} {held : Bool} {d : DataW H} {ps : List MemPlace}
theorem play_arg {r : Reach} {b0 : Nat} {v : Value} (hval : Value.okWide prog w r b0 24 v) (h : DataW.Trod enc prog w base spare held 24 v d ps) :
    ∃ (y0 y1 : Int → Int) (yn en lx : Int) (d : Nat → MvD) (n : Nat) (pvv ev mv : Value), v = .agg #[pvv, ev, .bool (decide (lx ≠ 0)), mv] ∧ IsStr pvv y0 0 yn ∧ IsStr ev y1 0 en ∧ IsMoves w mv d n := by
  obtain ⟨⟨cs⟩, rfl⟩ := agg_of u24 hval
  obtain ⟨fuel, hf⟩ := h
  obtain ⟨y0, y1, yn, en, lx, d, n, pvv, ev, mv, e, h1, h2, h3⟩ := play_open (show DataW.trod enc prog w base spare held fuel 24 cs = some _ from hf)
  subst e
  exact ⟨y0, y1, yn, en, lx, d, n, pvv, ev, mv, rfl, h1, h2, h3⟩
end

end Go.Proofs.Tryz

namespace Go.Proofs.Tryz
open Go Go.Am Go.ChangeShapes Go.WideShapes Go.ChangeAt Go.RowKit
set_option maxRecDepth 100000

theorem moves_bn {w : World} {mv : Value} {d : Nat → MvD} {n : Nat} (h : IsMoves w mv d n) : ∀ i, i < n → 0 ≤ (d i).bn := fun i hi => by
  obtain ⟨a, c, -, -, hr⟩ := h
  obtain ⟨b, off, -, hM⟩ := hr (by omega)
  obtain ⟨sv, bv, -, -, a2, m2, c2, -, -, hm, -⟩ := hM i hi
  omega
theorem bytes_arg {W : World} {r : Reach} {b0 : Nat} {v : Value} (h : Value.okWide prog W r b0 9 v) : ∃ s, v = .string s := by
  simp only [Value.okWide, Cell.okWide, u9] at h
  cases v <;> simp_all [Cell.ok]
end Go.Proofs.Tryz
