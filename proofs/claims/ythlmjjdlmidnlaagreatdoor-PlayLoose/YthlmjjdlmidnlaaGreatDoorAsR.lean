/- A play printed by the reference: by the kit's walk. Strings: the shelf's contracts at this program, in plain words (written by the shelf's plain mode). A play printed by the program: by the kit's walk; strings.Join by the shelf. The form of a row that a call has made. text and Print of the program: by the kit's walk. Print of the program: by the kit's walk; what a valid play's strings are. The reference's Outs and Runs, by the kit's walk. The reference's CheckDraw, by the kit's walk. -/
import Derived.Test.YthlmjjdlmidnlaaGreatDoorAsP
import Derived.Shelf.Strings.OnBuilder
import Derived.Shelf.Strings.Split
import Derived.Shelf.Strings.SlTrimAscii
import Derived.Shelf.Strings.Search3
import Derived.Shelf.Small.Wraps
import Derived.Ground.NamesProg
import Derived.Test.YthlmjjdlmidnlaaGreatDoorProg
import Derived.Test.YthlmjjdlmidnlaaGreatDoorArVc
import Derived.Deep.RegionWith
import Derived.Deep.RegionHeld3
import Derived.Deep.DeepCutAuto
namespace Go.Proofs.Tryz
open Go Go.Am Go.RowKit Go.Dr
set_option maxRecDepth 100000

def dashL (l : List UInt8) : List UInt8 := if l.length = 0 then [45] else l
theorem length_dashL (l : List UInt8) : (dashL l).length ≤ l.length + 1 := by
  unfold dashL; split <;> simp
theorem bA_size (l : List UInt8) : (bA l).size = l.length := by simp [bA, ByteArray.size]
theorem bA_list (l : List UInt8) : (bA l).toList = l := by rw [Lib.toList_data]; rfl
theorem dash_w (l : List UInt8) (w : World) : Calls prog 90 #[.string (bA l)] w fun e w' => e = .returned (.string (bA (dashL l))) ∧ w' = w := by
  cases l with
  | nil =>
    have e : bA [] = ({ data := #[] } : ByteArray) := rfl
    have e2 : bA (dashL []) = ({ data := #[45] } : ByteArray) := rfl
    rw [e, e2]
    clear e e2
    go_enter func90, ntmps90
    go_wp2
    go_ret
    exact ⟨rfl, rfl⟩
  | cons c l =>
    have e : dashL (c :: l) = c :: l := by simp [dashL]
    have hl : ((bA (c :: l)).toList == []) = false := by rw [bA_list]; rfl
    have hl2 : (bA (c :: l)).toList ≠ [] := by rw [bA_list]; simp
    rw [e]
    generalize bA (c :: l) = s at hl hl2 ⊢
    clear e
    go_enter func90, ntmps90
    go_wp2
    go_ret
    exact ⟨rfl, rfl⟩
theorem optional_w (l : List UInt8) (w : World) : Calls prog 119 #[.string (bA l)] w fun e w' => e = .returned (.string (bA (dashL l))) ∧ w' = w := by
  cases l with
  | nil =>
    have e : bA [] = ({ data := #[] } : ByteArray) := rfl
    have e2 : bA (dashL []) = ({ data := #[45] } : ByteArray) := rfl
    rw [e, e2]
    clear e e2
    go_enter func119, ntmps119
    go_wp2
    go_ret
    exact ⟨rfl, rfl⟩
  | cons c l =>
    have e : dashL (c :: l) = c :: l := by simp [dashL]
    have hl : ((bA (c :: l)).toList == []) = false := by rw [bA_list]; rfl
    have hl2 : (bA (c :: l)).toList ≠ [] := by rw [bA_list]; simp
    rw [e]
    generalize bA (c :: l) = s at hl hl2 ⊢
    clear e
    go_enter func119, ntmps119
    go_wp2
    go_ret
    exact ⟨rfl, rfl⟩
theorem length_moveL {m : MvD} (hn : m.bn ≤ 1000) (hsn : m.sn ≤ 1000) : (moveL m).length ≤ 2004 := by
  unfold moveL
  simp only [List.length_append, List.length_cons, List.length_nil, List.length_map, strL, tchs, length_intsL, List.length_range]
  split <;> simp <;> omega

/-- The bytes of the first moves, each behind a blank. -/
def mvsL (d : Nat → MvD) : Nat → List UInt8
  | 0 => []
  | i + 1 => mvsL d i ++ ([32] ++ moveL (d i))
def lateL (lx : Bool) : List UInt8 := if lx = true then [32, 108, 97, 116, 101] else []
/-- The bytes of a play. -/
def playL (l1 l2 : List UInt8) (lx : Bool) (d : Nat → MvD) (n : Nat) : List UInt8 := dashL l1 ++ [32] ++ dashL l2 ++ lateL lx ++ mvsL d n
end Go.Proofs.Tryz

namespace Go.Proofs
open Go.Shelf
def Tryz.joinSL_ren : Go.Shelf.Ren := ⟨fun | 156 => 121 | 165 => 155 | 166 => 109 | 169 => 111 | 240 => 145 | 241 => 171 | 276 => 167 | 277 => 191 | n => n, fun | 31 => 88 | 9 => 9 | 3 => 3 | 4 => 4 | 0 => 0 | 20 => 20 | 72 => 145 | 76 => 148 | 70 => 142 | 37 => 143 | 75 => 147 | 127 => 180 | 164 => 195 | 5 => 5 | 80 => 151 | n => n, fun | n => n⟩
theorem Tryz.joinSL : Go.Proofs.Lays.n156 Tryz.prog Tryz.joinSL_ren := {
  mixed := by kernel_rfl
  f156 := Tryz.func121.trans (congrArg some (by kernel_rfl))
  f165 := Tryz.func155.trans (congrArg some (by kernel_rfl))
  f166 := Tryz.func109.trans (congrArg some (by kernel_rfl))
  f169 := Tryz.func111.trans (congrArg some (by kernel_rfl))
  f240 := Tryz.func145.trans (congrArg some (by kernel_rfl))
  f241 := Tryz.func171.trans (congrArg some (by kernel_rfl))
  f276 := Tryz.func167.trans (congrArg some (by kernel_rfl))
  f277 := Tryz.func191.trans (congrArg some (by kernel_rfl))
  t0 := Tryz.underlying0
  a0 := Tryz.isAgg0
  z0 := Tryz.sizeOf0
  v0 := Tryz.zeroValue0
  t3 := Tryz.underlying3
  a3 := Tryz.isAgg3
  z3 := Tryz.sizeOf3
  v3 := Tryz.zeroValue3
  t4 := Tryz.underlying4
  a4 := Tryz.isAgg4
  z4 := Tryz.sizeOf4
  v4 := Tryz.zeroValue4
  t9 := Tryz.underlying9
  a9 := Tryz.isAgg9
  z9 := Tryz.sizeOf9
  v9 := Tryz.zeroValue9
  t20 := Tryz.underlying20
  a20 := Tryz.isAgg20
  z20 := Tryz.sizeOf20
  v20 := Tryz.zeroValue20
  t31 := Tryz.underlying88
  a31 := Tryz.isAgg88
  z31 := Tryz.sizeOf88
  v31 := Tryz.zeroValue88
  t37 := Tryz.underlying143
  a37 := Tryz.isAgg143
  z37 := Tryz.sizeOf143
  v37 := Tryz.zeroValue143
  t70 := Tryz.underlying142
  a70 := Tryz.isAgg142
  z70 := Tryz.sizeOf142
  v70 := Tryz.zeroValue142
  t72 := Tryz.underlying145
  a72 := Tryz.isAgg145
  z72 := Tryz.sizeOf145
  v72 := Tryz.zeroValue145
  t75 := Tryz.underlying147
  a75 := Tryz.isAgg147
  z75 := Tryz.sizeOf147
  v75 := Tryz.zeroValue147
  t76 := Tryz.underlying148
  a76 := Tryz.isAgg148
  z76 := Tryz.sizeOf148
  v76 := Tryz.zeroValue148
  t127 := Tryz.underlying180
  a127 := Tryz.isAgg180
  z127 := Tryz.sizeOf180
  v127 := Tryz.zeroValue180
  t164 := Tryz.underlying195
  a164 := Tryz.isAgg195
  z164 := Tryz.sizeOf195
  v164 := Tryz.zeroValue195 }
theorem Tryz.joinX : Builder.Extra Tryz.prog Tryz.joinSL_ren := {
  sizeBuilder := by kernel_rfl
  liesBuilder := by kernel_rfl
  t5 := Tryz.underlying5
  a5 := Tryz.isAgg5
  z5 := Tryz.sizeOf5
  v5 := Tryz.zeroValue5
  infoByte := by kernel_rfl
  cellsByte := by kernel_rfl
  sizeByte := by kernel_rfl
  neB5 := by decide }
def Tryz.splitSL_ren : Go.Shelf.Ren := ⟨fun | 146 => 123 | 221 => 156 | 268 => 172 | 138 => 173 | 143 => 118 | 195 => 192 | 197 => 158 | 218 => 193 | 219 => 153 | 260 => 174 | 217 => 168 | 225 => 152 | 224 => 151 | 267 => 170 | 266 => 189 | 314 => 190 | n => n, fun | 9 => 9 | 31 => 88 | 3 => 3 | 4 => 4 | 0 => 0 | 105 => 187 | 21 => 21 | 5 => 5 | 46 => 184 | 119 => 215 | 139 => 218 | 138 => 217 | 146 => 212 | 51 => 207 | n => n, fun | 1 => 2 | 3 => 3 | 4 => 4 | n => n⟩
theorem Tryz.splitSL : Go.Proofs.Lays.n146 Tryz.prog Tryz.splitSL_ren := {
  mixed := by kernel_rfl
  f138 := Tryz.func173.trans (congrArg some (by kernel_rfl))
  f143 := Tryz.func118.trans (congrArg some (by kernel_rfl))
  f146 := Tryz.func123.trans (congrArg some (by kernel_rfl))
  f195 := Tryz.func192.trans (congrArg some (by kernel_rfl))
  f197 := Tryz.func158.trans (congrArg some (by kernel_rfl))
  f217 := Tryz.func168.trans (congrArg some (by kernel_rfl))
  f218 := Tryz.func193.trans (congrArg some (by kernel_rfl))
  f219 := Tryz.func153.trans (congrArg some (by kernel_rfl))
  f221 := Tryz.func156.trans (congrArg some (by kernel_rfl))
  f224 := Tryz.func151.trans (congrArg some (by kernel_rfl))
  f225 := Tryz.func152.trans (congrArg some (by kernel_rfl))
  f260 := Tryz.func174.trans (congrArg some (by kernel_rfl))
  f266 := Tryz.func189.trans (congrArg some (by kernel_rfl))
  f267 := Tryz.func170.trans (congrArg some (by kernel_rfl))
  f268 := Tryz.func172.trans (congrArg some (by kernel_rfl))
  f314 := Tryz.func190.trans (congrArg some (by kernel_rfl))
  t0 := Tryz.underlying0
  a0 := Tryz.isAgg0
  z0 := Tryz.sizeOf0
  v0 := Tryz.zeroValue0
  t3 := Tryz.underlying3
  a3 := Tryz.isAgg3
  z3 := Tryz.sizeOf3
  v3 := Tryz.zeroValue3
  t4 := Tryz.underlying4
  a4 := Tryz.isAgg4
  z4 := Tryz.sizeOf4
  v4 := Tryz.zeroValue4
  t5 := Tryz.underlying5
  a5 := Tryz.isAgg5
  z5 := Tryz.sizeOf5
  v5 := Tryz.zeroValue5
  t9 := Tryz.underlying9
  a9 := Tryz.isAgg9
  z9 := Tryz.sizeOf9
  v9 := Tryz.zeroValue9
  t21 := Tryz.underlying21
  a21 := Tryz.isAgg21
  z21 := Tryz.sizeOf21
  v21 := Tryz.zeroValue21
  t31 := Tryz.underlying88
  a31 := Tryz.isAgg88
  z31 := Tryz.sizeOf88
  v31 := Tryz.zeroValue88
  t46 := Tryz.underlying184
  a46 := Tryz.isAgg184
  z46 := Tryz.sizeOf184
  v46 := Tryz.zeroValue184
  t51 := Tryz.underlying207
  a51 := Tryz.isAgg207
  z51 := Tryz.sizeOf207
  v51 := Tryz.zeroValue207
  t105 := Tryz.underlying187
  a105 := Tryz.isAgg187
  z105 := Tryz.sizeOf187
  v105 := Tryz.zeroValue187
  t119 := Tryz.underlying215
  a119 := Tryz.isAgg215
  z119 := Tryz.sizeOf215
  t138 := Tryz.underlying217
  a138 := Tryz.isAgg217
  z138 := Tryz.sizeOf217
  v138 := Tryz.zeroValue217
  t139 := Tryz.underlying218
  a139 := Tryz.isAgg218
  z139 := Tryz.sizeOf218
  v139 := Tryz.zeroValue218
  t146 := Tryz.underlying212
  a146 := Tryz.isAgg212
  z146 := Tryz.sizeOf212
  v146 := Tryz.zeroValue212
  g1 := by kernel_rfl
  g3 := by kernel_rfl
  g4 := by kernel_rfl }
def Tryz.trimSL_ren : Go.Shelf.Ren := ⟨fun | 160 => 86 | 232 => 125 | 231 => 124 | 227 => 126 | 234 => 128 | 233 => 127 | 236 => 130 | 235 => 129 | 228 => 157 | 271 => 159 | 151 => 69 | 197 => 158 | 120 => 175 | 152 => 117 | 260 => 174 | 137 => 147 | 119 => 150 | 224 => 151 | 225 => 152 | 217 => 168 | 266 => 189 | n => n, fun | 9 => 9 | 4 => 4 | 3 => 3 | 5 => 5 | 117 => 168 | 116 => 167 | 0 => 0 | 124 => 171 | 21 => 21 | 105 => 187 | 46 => 184 | 119 => 215 | 139 => 218 | 138 => 217 | n => n, fun | 3 => 3 | 4 => 4 | n => n⟩
theorem Tryz.trimSL : Go.Proofs.Lays.n160 Tryz.prog Tryz.trimSL_ren := {
  mixed := by kernel_rfl
  f119 := Tryz.func150.trans (congrArg some (by kernel_rfl))
  f120 := Tryz.func175.trans (congrArg some (by kernel_rfl))
  f137 := Tryz.func147.trans (congrArg some (by kernel_rfl))
  f151 := Tryz.func69.trans (congrArg some (by kernel_rfl))
  f152 := Tryz.func117.trans (congrArg some (by kernel_rfl))
  f160 := Tryz.func86.trans (congrArg some (by kernel_rfl))
  f197 := Tryz.func158.trans (congrArg some (by kernel_rfl))
  f217 := Tryz.func168.trans (congrArg some (by kernel_rfl))
  f224 := Tryz.func151.trans (congrArg some (by kernel_rfl))
  f225 := Tryz.func152.trans (congrArg some (by kernel_rfl))
  f227 := Tryz.func126.trans (congrArg some (by kernel_rfl))
  f228 := Tryz.func157.trans (congrArg some (by kernel_rfl))
  f231 := Tryz.func124.trans (congrArg some (by kernel_rfl))
  f232 := Tryz.func125.trans (congrArg some (by kernel_rfl))
  f233 := Tryz.func127.trans (congrArg some (by kernel_rfl))
  f234 := Tryz.func128.trans (congrArg some (by kernel_rfl))
  f235 := Tryz.func129.trans (congrArg some (by kernel_rfl))
  f236 := Tryz.func130.trans (congrArg some (by kernel_rfl))
  f260 := Tryz.func174.trans (congrArg some (by kernel_rfl))
  f266 := Tryz.func189.trans (congrArg some (by kernel_rfl))
  f271 := Tryz.func159.trans (congrArg some (by kernel_rfl))
  t0 := Tryz.underlying0
  a0 := Tryz.isAgg0
  z0 := Tryz.sizeOf0
  v0 := Tryz.zeroValue0
  t3 := Tryz.underlying3
  a3 := Tryz.isAgg3
  z3 := Tryz.sizeOf3
  v3 := Tryz.zeroValue3
  t4 := Tryz.underlying4
  a4 := Tryz.isAgg4
  z4 := Tryz.sizeOf4
  v4 := Tryz.zeroValue4
  t5 := Tryz.underlying5
  a5 := Tryz.isAgg5
  z5 := Tryz.sizeOf5
  v5 := Tryz.zeroValue5
  t9 := Tryz.underlying9
  a9 := Tryz.isAgg9
  z9 := Tryz.sizeOf9
  v9 := Tryz.zeroValue9
  t21 := Tryz.underlying21
  a21 := Tryz.isAgg21
  z21 := Tryz.sizeOf21
  v21 := Tryz.zeroValue21
  t46 := Tryz.underlying184
  a46 := Tryz.isAgg184
  z46 := Tryz.sizeOf184
  v46 := Tryz.zeroValue184
  t105 := Tryz.underlying187
  a105 := Tryz.isAgg187
  z105 := Tryz.sizeOf187
  v105 := Tryz.zeroValue187
  t116 := Tryz.underlying167
  a116 := Tryz.isAgg167
  z116 := Tryz.sizeOf167
  t117 := Tryz.underlying168
  a117 := Tryz.isAgg168
  z117 := Tryz.sizeOf168
  v117 := Tryz.zeroValue168
  t119 := Tryz.underlying215
  a119 := Tryz.isAgg215
  z119 := Tryz.sizeOf215
  t124 := Tryz.underlying171
  a124 := Tryz.isAgg171
  z124 := Tryz.sizeOf171
  v124 := Tryz.zeroValue171
  t138 := Tryz.underlying217
  a138 := Tryz.isAgg217
  z138 := Tryz.sizeOf217
  v138 := Tryz.zeroValue217
  t139 := Tryz.underlying218
  a139 := Tryz.isAgg218
  z139 := Tryz.sizeOf218
  v139 := Tryz.zeroValue218
  g3 := by kernel_rfl
  g4 := by kernel_rfl }
def Tryz.containsSL_ren : Go.Shelf.Ren := ⟨fun | 144 => 72 | 143 => 118 | 219 => 153 | 217 => 168 | 225 => 152 | 224 => 151 | 267 => 170 | 266 => 189 | 314 => 190 | n => n, fun | 9 => 9 | 4 => 4 | 3 => 3 | 5 => 5 | 46 => 184 | 146 => 212 | 51 => 207 | n => n, fun | 1 => 2 | n => n⟩
theorem Tryz.containsSL : Go.Proofs.Lays.n144 Tryz.prog Tryz.containsSL_ren := {
  mixed := by kernel_rfl
  f143 := Tryz.func118.trans (congrArg some (by kernel_rfl))
  f144 := Tryz.func72.trans (congrArg some (by kernel_rfl))
  f217 := Tryz.func168.trans (congrArg some (by kernel_rfl))
  f219 := Tryz.func153.trans (congrArg some (by kernel_rfl))
  f224 := Tryz.func151.trans (congrArg some (by kernel_rfl))
  f225 := Tryz.func152.trans (congrArg some (by kernel_rfl))
  f266 := Tryz.func189.trans (congrArg some (by kernel_rfl))
  f267 := Tryz.func170.trans (congrArg some (by kernel_rfl))
  f314 := Tryz.func190.trans (congrArg some (by kernel_rfl))
  t3 := Tryz.underlying3
  a3 := Tryz.isAgg3
  z3 := Tryz.sizeOf3
  v3 := Tryz.zeroValue3
  t4 := Tryz.underlying4
  a4 := Tryz.isAgg4
  z4 := Tryz.sizeOf4
  v4 := Tryz.zeroValue4
  t5 := Tryz.underlying5
  a5 := Tryz.isAgg5
  z5 := Tryz.sizeOf5
  v5 := Tryz.zeroValue5
  t9 := Tryz.underlying9
  a9 := Tryz.isAgg9
  z9 := Tryz.sizeOf9
  v9 := Tryz.zeroValue9
  t46 := Tryz.underlying184
  a46 := Tryz.isAgg184
  z46 := Tryz.sizeOf184
  v46 := Tryz.zeroValue184
  t51 := Tryz.underlying207
  a51 := Tryz.isAgg207
  z51 := Tryz.sizeOf207
  v51 := Tryz.zeroValue207
  t146 := Tryz.underlying212
  a146 := Tryz.isAgg212
  z146 := Tryz.sizeOf212
  v146 := Tryz.zeroValue212
  g1 := by kernel_rfl }
def Tryz.cutSufSL_ren : Go.Shelf.Ren := ⟨fun | 104 => 113 | 211 => 148 | 207 => 169 | n => n, fun | 9 => 9 | 4 => 4 | 24 => 155 | 3 => 3 | n => n, fun | n => n⟩
theorem Tryz.cutSufSL : Go.Proofs.Lays.n104 Tryz.prog Tryz.cutSufSL_ren := {
  mixed := by kernel_rfl
  f104 := Tryz.func113.trans (congrArg some (by kernel_rfl))
  f207 := Tryz.func169.trans (congrArg some (by kernel_rfl))
  f211 := Tryz.func148.trans (congrArg some (by kernel_rfl))
  t3 := Tryz.underlying3
  a3 := Tryz.isAgg3
  z3 := Tryz.sizeOf3
  v3 := Tryz.zeroValue3
  t4 := Tryz.underlying4
  a4 := Tryz.isAgg4
  z4 := Tryz.sizeOf4
  v4 := Tryz.zeroValue4
  t9 := Tryz.underlying9
  a9 := Tryz.isAgg9
  z9 := Tryz.sizeOf9
  v9 := Tryz.zeroValue9
  t24 := Tryz.underlying155
  a24 := Tryz.isAgg155
  z24 := Tryz.sizeOf155
  v24 := Tryz.zeroValue155 }
def Tryz.stringSL_ren : Go.Shelf.Ren := ⟨fun | 169 => 111 | n => n, fun | 70 => 142 | 9 => 9 | 0 => 0 | 72 => 145 | 37 => 143 | 127 => 180 | 3 => 3 | 5 => 5 | n => n, fun | n => n⟩
theorem Tryz.stringSL : Go.Proofs.Lays.n169 Tryz.prog Tryz.stringSL_ren := {
  mixed := by kernel_rfl
  f169 := Tryz.func111.trans (congrArg some (by kernel_rfl))
  t0 := Tryz.underlying0
  a0 := Tryz.isAgg0
  z0 := Tryz.sizeOf0
  v0 := Tryz.zeroValue0
  t3 := Tryz.underlying3
  a3 := Tryz.isAgg3
  z3 := Tryz.sizeOf3
  v3 := Tryz.zeroValue3
  t9 := Tryz.underlying9
  a9 := Tryz.isAgg9
  z9 := Tryz.sizeOf9
  v9 := Tryz.zeroValue9
  t37 := Tryz.underlying143
  a37 := Tryz.isAgg143
  z37 := Tryz.sizeOf143
  v37 := Tryz.zeroValue143
  t70 := Tryz.underlying142
  a70 := Tryz.isAgg142
  z70 := Tryz.sizeOf142
  v70 := Tryz.zeroValue142
  t72 := Tryz.underlying145
  a72 := Tryz.isAgg145
  z72 := Tryz.sizeOf145
  v72 := Tryz.zeroValue145
  t127 := Tryz.underlying180
  a127 := Tryz.isAgg180
  z127 := Tryz.sizeOf180
  v127 := Tryz.zeroValue180 }
end Go.Proofs

namespace Go.Proofs.Tryz
open Go Go.Am Go.RowKit Go.Dr
set_option maxRecDepth 100000

theorem join_w {w : World} {bk c : Nat} {ws : List (List UInt8)} {n : Nat} {base : Nat} (h : w.ownsRow base 9 1 (.slice (some ⟨bk, 0, none⟩) n c) n (ws.map fun l => .string (bA l))) (hn : n ≤ 1000000) (hlen : (Lib.join ws [32]).length ≤ 1000000) :
    Calls prog 121 #[.slice (some ⟨bk, 0, none⟩) n c, .string { data := #[32] }] w fun e w' => e = .returned (.string (bA (Lib.join ws [32]))) ∧ Below w.heap.size w w' := by
  have hl : ws.length = n := by have := h.1; simpa using this
  have hnc : n ≤ c := by
    rcases h.2 with ⟨e, _⟩ | ⟨g, cap, cur, e, _, _, h3, _⟩
    · cases e
    · simp only [Value.slice.injEq] at e; omega
  have e1 : (ws.map bA).map (fun s => s.data.toList) = ws := by
    rw [List.map_map]
    conv => rhs; rw [← List.map_id ws]
    apply List.map_congr_left
    intro x _
    simp [bA]
  have cJ := Any.strings_Join joinSL joinX bk 0 c (ws.map bA) { data := #[32] } w (fun j x hj => by
    rw [List.getElem?_map] at hj
    have hjl : j < n := by
      have := (List.getElem?_eq_some_iff.1 (Option.map_eq_some_iff.1 hj).choose_spec.1).1
      omega
    rw [Nat.zero_add, h.cellAt j (by omega), List.getElem?_map]
    cases hx : ws[j]? with
    | none => rw [hx] at hj; cases hj
    | some l => rw [hx] at hj; cases hj; rfl) (h.lt bk rfl).2 (by simp; omega) (by simp; omega) (by
      have e2 : ({ data := #[32] } : ByteArray).data.toList = [32] := rfl
      rw [e1, e2]; omega)
  rw [List.length_map, hl, e1] at cJ
  exact cJ

/-! ### the words joined -/
theorem join_two (a b : List UInt8) (r : List (List UInt8)) : Lib.join (a :: b :: r) [32] = a ++ [32] ++ b ++ (r.map ([32] ++ ·)).flatten := by
  rw [Lib.join_cons]
  simp [Lib.joinTail]
def wordsK (l1 l2 : List UInt8) (lx : Bool) (d : Nat → MvD) : Nat → List (List UInt8)
  | 0 => [dashL l1, dashL l2] ++ (if lx = true then [[108, 97, 116, 101]] else [])
  | i + 1 => wordsK l1 l2 lx d i ++ [moveL (d i)]
theorem wordsK_cons (l1 l2 : List UInt8) (lx : Bool) (d : Nat → MvD) : ∀ i, ∃ r, wordsK l1 l2 lx d i = dashL l1 :: dashL l2 :: r ∧ (r.map ([32] ++ ·)).flatten = lateL lx ++ mvsL d i
  | 0 => ⟨if lx = true then [[108, 97, 116, 101]] else [], rfl, by cases lx <;> simp [lateL, mvsL]⟩
  | i + 1 => by
    obtain ⟨r, e, h⟩ := wordsK_cons l1 l2 lx d i
    refine ⟨r ++ [moveL (d i)], by rw [wordsK, e]; rfl, ?_⟩
    rw [List.map_append, List.flatten_append, h, mvsL]
    simp
theorem join_words (l1 l2 : List UInt8) (lx : Bool) (d : Nat → MvD) (n : Nat) : Lib.join (wordsK l1 l2 lx d n) [32] = playL l1 l2 lx d n := by
  obtain ⟨r, e, h⟩ := wordsK_cons l1 l2 lx d n
  rw [e, join_two, h]
  unfold playL
  simp
end Go.Proofs.Tryz

namespace Go.Proofs.Tryz
open Go Go.Am Go.RowKit Go.Dr
set_option maxRecDepth 100000

theorem own_form {w : World} {base : Nat} {e : TypeId} {n : Nat} {v : Value} {xs : List Value} (h : w.ownsRow base e 1 v n xs) : ∃ a c, v = .slice a n c ∧ (n = 0 ∨ ∃ g, a = some ⟨g, 0, none⟩) := by
  rcases h.2 with ⟨rfl, h2⟩ | ⟨g, cap, cur, rfl, -⟩
  · have h1 := h.1
    rw [h2] at h1
    have e0 : n = 0 := by simp at h1; omega
    subst e0
    exact ⟨_, _, rfl, .inl rfl⟩
  · exact ⟨_, _, rfl, .inr ⟨g, rfl⟩⟩
end Go.Proofs.Tryz

namespace Go.Proofs.Tryz
open Go Go.Am Go.RowKit Go.Dr
set_option maxRecDepth 100000

theorem info9 : (prog.info? 9).map (fun i => (i.zero, i.size, i.bytes)) = some (some (.string ⟨#[]⟩), 1, 16) := by kernel_rfl
def strV (l : List UInt8) : Value := .string (bA l)
theorem wordsK_len (l1 l2 : List UInt8) (lx : Bool) (d : Nat → MvD) : ∀ i, (wordsK l1 l2 lx d i).length ≤ i + 3
  | 0 => by cases lx <;> simp [wordsK]
  | i + 1 => by have := wordsK_len l1 l2 lx d i; rw [wordsK, List.length_append]; simp; omega
theorem mvsL_len {d : Nat → MvD} {n : Nat} (hd : ∀ i, i < n → (d i).bn ≤ 1000 ∧ (d i).sn ≤ 1000) : ∀ i, i ≤ n → (mvsL d i).length ≤ 2005 * i
  | 0, _ => Nat.zero_le _
  | i + 1, h => by
    have := mvsL_len hd i (by omega)
    have := length_moveL (hd i (by omega)).1 (hd i (by omega)).2
    rw [mvsL, List.length_append, List.length_append]
    simp
    omega
theorem playL_len {l1 l2 : List UInt8} {lx : Bool} {d : Nat → MvD} {n : Nat} (h1 : l1.length ≤ 1000) (h2 : l2.length ≤ 1000) (hn : n ≤ 100) (hd : ∀ i, i < n → (d i).bn ≤ 1000 ∧ (d i).sn ≤ 1000) : (playL l1 l2 lx d n).length ≤ 300000 := by
  have := mvsL_len hd n (Nat.le_refl _)
  have := length_dashL l1
  have := length_dashL l2
  unfold playL
  simp only [List.length_append, List.length_cons, List.length_nil]
  have : (lateL lx).length ≤ 5 := by cases lx <;> simp [lateL]
  omega

section
variable {w : World} {l1 l2 : List UInt8} {lx : Bool} {d : Nat → MvD} {n : Nat} {ad : Option Addr} {c : Nat}
set_option maxHeartbeats 3200000 in
theorem text_w (h1 : l1.length ≤ 1000) (h2 : l2.length ≤ 1000) (hm : IsMoves w (.slice ad n c) d n) (hn : n ≤ 100) (hd : ∀ i, i < n → DigM (d i) ∧ (d i).bn ≤ 1000 ∧ (d i).sn ≤ 1000) :
    Calls prog 84 #[.agg #[.string (bA l1), .string (bA l2), .bool lx, .slice ad n c]] w fun e w' => e = .returned (.string (bA (playL l1 l2 lx d n))) ∧ Below w.heap.size w w' := by
  have hpl := playL_len (lx := lx) h1 h2 hn fun i hi => (hd i hi).2
  obtain ⟨i9, hi9, hz90, hz91, hz92⟩ := info_more info9
  have zz : ((.string ⟨#[]⟩ : Value)).cells.size = 1 := rfl
  have hB : Below w.heap.size w (w.alloc (.cells #[.string (bA l1), .string (bA l2), .bool lx, .slice ad n c] 24)) := (Below.refl _ _).alloc (Nat.le_refl _) _
  have hx0 := at_new w #[.string (bA l1), .string (bA l2), .bool lx, .slice ad n c] 24
  go_enter func84, ntmps84
  go_wp2_with fail
  generalize w.alloc (.cells #[.string (bA l1), .string (bA l2), .bool lx, .slice ad n c] 24) = W0 at hB hx0 ⊢
  obtain ⟨⟨x0, x1, x2, x3⟩, -⟩ := box4 hx0
  have hdr : Below W0.heap.size W0 W0.drew := (Below.refl _ _).drew
  have hdz : Below W0.heap.size W0 (W0.alloc (.cells #[.string (bA (dashL l1)), .string (bA (dashL l2))] 9)).drew := ((Below.refl _ _).alloc (Nat.le_refl _) _).drew
  go_region_held3 (fun W => W.cell? ⟨w.heap.size, 0, none⟩ = some (.string (bA l1)) ∧ W.cell? ⟨w.heap.size, 1, none⟩ = some (.string (bA l2)) ∧ Below W0.heap.size W0 W)
    (go_keep)
    (first
      | (go_at_call 119; refine Calls.mono (optional_w _ _) ?_; rintro e W ⟨rfl, rfl⟩))
  clear x0 x1 x2 x3
  have hxD : At (W0.alloc (.cells #[.string (bA (dashL l1)), .string (bA (dashL l2))] 9)).drew w.heap.size #[.string (bA l1), .string (bA l2), .bool lx, .slice ad n c] 24 := (hx0.alloc _).drew
  have hbD := (hB.alloc hB.size (.cells #[.string (bA (dashL l1)), .string (bA (dashL l2))] 9)).drew
  have own2 : (W0.alloc (.cells #[.string (bA (dashL l1)), .string (bA (dashL l2))] 9)).drew.ownsRow w.heap.size 9 1 (.slice (some ⟨W0.heap.size, 0, none⟩) 2 2) 2 [.string (bA (dashL l1)), .string (bA (dashL l2))] :=
    (World.ownsRow_lit W0 #[.string (bA (dashL l1)), .string (bA (dashL l2))] 2 hB.size (by decide) rfl).drew
  have hk9 : w.heap.size ≤ (W0.alloc (.cells #[.string (bA (dashL l1)), .string (bA (dashL l2))] 9)).drew.heap.size := hbD.size
  generalize (W0.alloc (.cells #[.string (bA (dashL l1)), .string (bA (dashL l2))] 9)).drew = W at hxD hbD own2 hk9 ⊢
  generalize W0.heap.size = g2 at own2 ⊢
  clear hx0 hB hdr hdz
  obtain ⟨⟨x0, x1, x2, x3⟩, -⟩ := box4 hxD
  cases lx with
  | true =>
    go_wp2_with (first
      | (at_builtin; refine wpList_append_own _ rfl _ _ 88 rfl w.heap.size 9 i9 (.string ⟨#[]⟩) 1 16 underlying88 hi9 hz90 hz91 hz92 zz (by decide) _ _ _ rfl (own2.alloc _) ⟨W.heap.size, 0, none⟩ 1 1 [.string { data := #[108, 97, 116, 101] }] rfl rfl ?c1 ?c2 ?c3 ?c4 ?c5 ?_)
      | go_in)
    case c1 =>
      intro j u hj
      match j, hj with
      | 0, hj => simp at hj; subst hj; simp [Addr.add]
    case c2 => intro u hu; simp at hu; subst hu; rfl
    case c3 => decide
    case c4 => decide
    case c5 => simp; omega
    intro v3 w3 hown3 hgr3 _
    have hb3 : Below w.heap.size w w3 := (hbD.alloc hbD.size _).grown hgr3 (by simp; omega) (fun q hq => (own2.lt q hq).1)
    have hw : w3.ownsRow w.heap.size 9 1 v3 (wordsK l1 l2 true d 0).length ((wordsK l1 l2 true d 0).map strV) := hown3
    have hx3 : At w3 w.heap.size #[.string (bA l1), .string (bA l2), .bool true, .slice ad n c] 24 := (hgr3.block _ (hxD.alloc _).lt (fun e => by
      obtain ⟨cs', fz, hc⟩ := Lib.ownsRow_kind own2 _ e.symm
      unfold At at hxD
      rw [hxD] at hc
      simp at hc)).trans (hxD.alloc _)
    clear own2 hown3 hgr3 hxD hbD x0 x1 x2 x3 hk9
    obtain ⟨⟨-, -, -, x3⟩, -⟩ := box4 hx3
    go_wp2_with fail
    go_loopw [3, 21] (fun t z wr => ∃ (i : Nat) (v : Value), i ≤ n ∧ z = .int .i64 i ∧ v = t ∧ wr.ownsRow w.heap.size 9 1 v (wordsK l1 l2 true d i).length ((wordsK l1 l2 true d i).map strV) ∧ Below w.heap.size w wr) (fun _ z _ => n - (numOf' z).toNat)
    case atStart => exact ⟨0, _, Nat.zero_le _, rfl, rfl, hw, hb3⟩
    case round =>
      clear hw hb3 hx3
      obtain ⟨i, v, hi, rfl, rfl, hw, hbel⟩ := hrel
      by_cases hin : i < n
      · obtain ⟨b, off, rfl, -, f, hf, hcf⟩ := m5_row hm (by omega)
        obtain ⟨hd1, hd2, hd3⟩ := hd i hin
        obtain ⟨p0, p1, p2, p3, p4⟩ := hcf i hin
        have hcel : ∀ {b o : Nat} {v : Value}, w.cell? ⟨b, o, none⟩ = some v → wr.cell? ⟨b, o, none⟩ = some v := fun h => cell_b h hbel (cell_under h)
        have p0 := hcel p0
        have p1 := hcel p1
        have p2 := hcel p2
        have p3 := hcel p3
        have p4 := hcel p4
        have hmi := (hf i hin).below hbel
        have hwl := wordsK_len l1 l2 true d i
        clear hcf hf hcel
        generalize f i = m at p0 p1 p2 p3 p4 hmi
        have hal := (Below.refl wr.heap.size wr).alloc (Nat.le_refl _) (.cells #[.int .i64 m.f1, .int .i64 m.f2, .bool m.xb, .string m.s, .slice m.a m.k m.c] 27)
        have cM := printMove_w (hmi.below hal) hd1 hd2 hd3
        have hown1 := hw.alloc (.cells #[.int .i64 m.f1, .int .i64 m.f2, .bool m.xb, .string m.s, .slice m.a m.k m.c] 27)
        have hbA := hbel.alloc hbel.size (.cells #[.int .i64 m.f1, .int .i64 m.f2, .bool m.xb, .string m.s, .slice m.a m.k m.c] 27)
        have HC : Hid ((wordsK l1 l2 true d (i + 1)).length = (wordsK l1 l2 true d i).length + 1 ∧ (wordsK l1 l2 true d (i + 1)).map strV = (wordsK l1 l2 true d i).map strV ++ [.string (bA (moveL (d i)))]) := Lib.hid (by
          rw [wordsK, List.length_append, List.map_append]
          exact ⟨rfl, rfl⟩)
        clear hmi hal hw hbel hd1 hd2 hd3
        generalize (wordsK l1 l2 true d i).map strV = xs at hown1 HC
        generalize (wordsK l1 l2 true d i).length = kk at hown1 HC hwl
        generalize bA (moveL (d i)) = Sm at cM HC
        go_wp2_with fail
        go_at_call 120
        refine cM.mono ?_
        rintro e w2 ⟨rfl, hk2⟩
        have hown2 := owns_below hown1 hk2
        have hb2 := hbA.trans (hk2.mono hbA.size)
        have hs2 := hb2.size
        clear cM hown1 hbA hk2 p0 p1 p2 p3 p4
        go_wp2_with (first
          | (at_builtin; refine wpList_append_own _ rfl _ _ 88 rfl w.heap.size 9 i9 (.string ⟨#[]⟩) 1 16 underlying88 hi9 hz90 hz91 hz92 zz (by decide) _ _ _ rfl (hown2.alloc _) ⟨w2.heap.size, 0, none⟩ 1 1 [.string Sm] rfl rfl ?c1 ?c2 ?c3 ?c4 ?c5 ?_)
          | go_in)
        case c1 =>
          intro j u hj
          match j, hj with
          | 0, hj => simp at hj; subst hj; simp [Addr.add]
        case c2 => intro u hu; simp at hu; subst hu; rfl
        case c3 => unfold maxLen; omega
        case c4 => omega
        case c5 => simp; omega
        intro v4 w4 hown4 hgr4 _
        have hb4 : Below w.heap.size w w4 := (hb2.alloc hb2.size _).grown hgr4 (by simp; omega) (fun q hq => (hown2.lt q hq).1)
        have ho4 : w4.ownsRow w.heap.size 9 1 v4 (wordsK l1 l2 true d (i + 1)).length ((wordsK l1 l2 true d (i + 1)).map strV) := by
          rw [HC.out.1, HC.out.2]; exact hown4
        clear hown4 hgr4 hown2 HC
        go_wp2
        go_roundw
        case rel => exact ⟨i + 1, _, by omega, by go_num, rfl, ho4, hb4⟩
        case measure => simp [numOf'] <;> omega
      · obtain rfl : i = n := by omega
        obtain ⟨r, er, -⟩ := wordsK_cons l1 l2 true d i
        have hwl := wordsK_len l1 l2 true d i
        have hne : (wordsK l1 l2 true d i).length ≠ 0 := by rw [er]; simp
        obtain ⟨a', c', rfl, hz⟩ := own_form hw
        obtain ⟨g, rfl⟩ := hz.resolve_left hne
        have hj := join_words l1 l2 true d i
        have cJ := join_w (ws := wordsK l1 l2 true d i) hw (by omega) (by rw [hj]; omega)
        rw [hj] at cJ
        clear hj er hw
        generalize (wordsK l1 l2 true d i).length = kk at cJ hne hwl
        go_wp2_with fail
        go_at_call 121
        refine cJ.mono ?_
        rintro e w5 ⟨rfl, hk5⟩
        go_wp2
        go_ret
        exact ⟨rfl, hbel.trans (hk5.mono hbel.size)⟩
  | false =>
    have hb3 := hbD
    have hw : W.ownsRow w.heap.size 9 1 (.slice (some ⟨g2, 0, none⟩) 2 2) (wordsK l1 l2 false d 0).length ((wordsK l1 l2 false d 0).map strV) := own2
    have hx3 := hxD
    clear own2 hxD hbD hk9
    go_wp2_with fail
    go_loopw [3, 21] (fun t z wr => ∃ (i : Nat) (v : Value), i ≤ n ∧ z = .int .i64 i ∧ v = t ∧ wr.ownsRow w.heap.size 9 1 v (wordsK l1 l2 false d i).length ((wordsK l1 l2 false d i).map strV) ∧ Below w.heap.size w wr) (fun _ z _ => n - (numOf' z).toNat)
    case atStart => exact ⟨0, _, Nat.zero_le _, rfl, rfl, hw, hb3⟩
    case round =>
      clear hw hb3 hx3
      obtain ⟨i, v, hi, rfl, rfl, hw, hbel⟩ := hrel
      by_cases hin : i < n
      · obtain ⟨b, off, rfl, -, f, hf, hcf⟩ := m5_row hm (by omega)
        obtain ⟨hd1, hd2, hd3⟩ := hd i hin
        obtain ⟨p0, p1, p2, p3, p4⟩ := hcf i hin
        have hcel : ∀ {b o : Nat} {v : Value}, w.cell? ⟨b, o, none⟩ = some v → wr.cell? ⟨b, o, none⟩ = some v := fun h => cell_b h hbel (cell_under h)
        have p0 := hcel p0
        have p1 := hcel p1
        have p2 := hcel p2
        have p3 := hcel p3
        have p4 := hcel p4
        have hmi := (hf i hin).below hbel
        have hwl := wordsK_len l1 l2 false d i
        clear hcf hf hcel
        generalize f i = m at p0 p1 p2 p3 p4 hmi
        have hal := (Below.refl wr.heap.size wr).alloc (Nat.le_refl _) (.cells #[.int .i64 m.f1, .int .i64 m.f2, .bool m.xb, .string m.s, .slice m.a m.k m.c] 27)
        have cM := printMove_w (hmi.below hal) hd1 hd2 hd3
        have hown1 := hw.alloc (.cells #[.int .i64 m.f1, .int .i64 m.f2, .bool m.xb, .string m.s, .slice m.a m.k m.c] 27)
        have hbA := hbel.alloc hbel.size (.cells #[.int .i64 m.f1, .int .i64 m.f2, .bool m.xb, .string m.s, .slice m.a m.k m.c] 27)
        have HC : Hid ((wordsK l1 l2 false d (i + 1)).length = (wordsK l1 l2 false d i).length + 1 ∧ (wordsK l1 l2 false d (i + 1)).map strV = (wordsK l1 l2 false d i).map strV ++ [.string (bA (moveL (d i)))]) := Lib.hid (by
          rw [wordsK, List.length_append, List.map_append]
          exact ⟨rfl, rfl⟩)
        clear hmi hal hw hbel hd1 hd2 hd3
        generalize (wordsK l1 l2 false d i).map strV = xs at hown1 HC
        generalize (wordsK l1 l2 false d i).length = kk at hown1 HC hwl
        generalize bA (moveL (d i)) = Sm at cM HC
        go_wp2_with fail
        go_at_call 120
        refine cM.mono ?_
        rintro e w2 ⟨rfl, hk2⟩
        have hown2 := owns_below hown1 hk2
        have hb2 := hbA.trans (hk2.mono hbA.size)
        have hs2 := hb2.size
        clear cM hown1 hbA hk2 p0 p1 p2 p3 p4
        go_wp2_with (first
          | (at_builtin; refine wpList_append_own _ rfl _ _ 88 rfl w.heap.size 9 i9 (.string ⟨#[]⟩) 1 16 underlying88 hi9 hz90 hz91 hz92 zz (by decide) _ _ _ rfl (hown2.alloc _) ⟨w2.heap.size, 0, none⟩ 1 1 [.string Sm] rfl rfl ?c1 ?c2 ?c3 ?c4 ?c5 ?_)
          | go_in)
        case c1 =>
          intro j u hj
          match j, hj with
          | 0, hj => simp at hj; subst hj; simp [Addr.add]
        case c2 => intro u hu; simp at hu; subst hu; rfl
        case c3 => unfold maxLen; omega
        case c4 => omega
        case c5 => simp; omega
        intro v4 w4 hown4 hgr4 _
        have hb4 : Below w.heap.size w w4 := (hb2.alloc hb2.size _).grown hgr4 (by simp; omega) (fun q hq => (hown2.lt q hq).1)
        have ho4 : w4.ownsRow w.heap.size 9 1 v4 (wordsK l1 l2 false d (i + 1)).length ((wordsK l1 l2 false d (i + 1)).map strV) := by
          rw [HC.out.1, HC.out.2]; exact hown4
        clear hown4 hgr4 hown2 HC
        go_wp2
        go_roundw
        case rel => exact ⟨i + 1, _, by omega, by go_num, rfl, ho4, hb4⟩
        case measure => simp [numOf'] <;> omega
      · obtain rfl : i = n := by omega
        obtain ⟨r, er, -⟩ := wordsK_cons l1 l2 false d i
        have hwl := wordsK_len l1 l2 false d i
        have hne : (wordsK l1 l2 false d i).length ≠ 0 := by rw [er]; simp
        obtain ⟨a', c', rfl, hz⟩ := own_form hw
        obtain ⟨g, rfl⟩ := hz.resolve_left hne
        have hj := join_words l1 l2 false d i
        have cJ := join_w (ws := wordsK l1 l2 false d i) hw (by omega) (by rw [hj]; omega)
        rw [hj] at cJ
        clear hj er hw
        generalize (wordsK l1 l2 false d i).length = kk at cJ hne hwl
        go_wp2_with fail
        go_at_call 121
        refine cJ.mono ?_
        rintro e w5 ⟨rfl, hk5⟩
        go_wp2
        go_ret
        exact ⟨rfl, hbel.trans (hk5.mono hbel.size)⟩
end
end Go.Proofs.Tryz

namespace Go.Proofs.Tryz
open Go Go.Am Go.RowKit Go.Dr
set_option maxRecDepth 100000

theorem mvV_sn {fr t0 x so sn bo bn : Int} {y t : Int → Int} (h : mvV fr t0 x y so sn t bo bn = 0) : sn = 1 := by
  obtain ⟨⟨h1, h2⟩, ⟨h3, h4⟩, -⟩ := mvV_zero h
  unfold mvV moveR range34 at h
  simp only [ev_le, ev_lf', val_L', mv_fr, mv_to] at h
  rw [if_pos h1, if_pos h2, if_pos h3, if_pos h4] at h
  rw [ev_eq] at h
  by_cases hs : sn = 1
  · exact hs
  · rw [mv_sn, val_L', if_neg hs, ev_lf'] at h
    cases h
/-- What is printed of a valid play. -/
structure PrnP (yn en : Int) (d : Nat → MvD) (n : Nat) : Prop where
  hy : yn ≤ 24
  he : en ≤ 1
  hn : n ≤ 4
  hd : ∀ i, i < n → DigM (d i) ∧ (d i).bn ≤ 1000 ∧ (d i).sn ≤ 1000
theorem prn_of {y0 y1 : Int → Int} {yo yn eo en : Int} {d : Nat → MvD} {n : Nat} (h : plV y0 yo yn y1 eo en d n = 0) (hb : ∀ i, i < n → 0 ≤ (d i).bn) : PrnP yn en d n := by
  obtain ⟨h1, h2⟩ := val_of h hb
  unfold plV at h
  by_cases p1 : pitV y0 yo yn = 0
  case neg => rw [if_neg p1] at h; exact absurd h p1
  rw [if_pos p1] at h
  by_cases p2 : evOk y1 eo en = true
  case neg => rw [if_neg p2] at h; cases h
  rw [if_pos p2, if_pos h1.n4] at h
  refine ⟨?_, ?_, h1.n4, fun i hi => ⟨⟨?_, ?_, fun z hz => ?_⟩, ?_, ?_⟩⟩
  · unfold pitV at p1
    by_cases q : yn ≤ 24
    · exact q
    · rw [if_neg q] at p1; cases p1
  · unfold evOk at p2
    rw [decide_eq_true_eq] at p2
    rcases p2 with p2 | p2 <;> omega
  · have := h1.fr i hi; omega
  · have := h2 i hi; omega
  · obtain ⟨j, hj⟩ := List.mem_iff_getElem?.1 hz
    have hl := (List.getElem?_eq_some_iff.1 hj).1
    rw [tchs, length_intsL] at hl
    rw [tchs, intsL_get hl] at hj
    cases hj
    have := h1.t i hi j (by have := (h1.bn i hi).1; omega)
    omega
  · have := (h1.bn i hi).2; omega
  · have := mvV_sn (mvs_zero d n 0 h i (Nat.zero_le _) (by omega)); omega

section
variable {w : World} {l1 l2 : List UInt8} {lx : Bool} {d : Nat → MvD} {n : Nat} {ad : Option Addr} {c : Nat} {pl : Int}
/-- What Print answers. -/
def prnL (pl : Int) (l1 l2 : List UInt8) (lx : Bool) (d : Nat → MvD) (n : Nat) : List UInt8 := if pl = 0 then playL l1 l2 lx d n else []
theorem print_w (hc : Chk w (.agg #[.string (bA l1), .string (bA l2), .bool lx, .slice ad n c]) pl) (hm : IsMoves w (.slice ad n c) d n) (hP : pl = 0 → PrnP l1.length l2.length d n) :
    Calls prog 21 #[.agg #[.string (bA l1), .string (bA l2), .bool lx, .slice ad n c]] w fun e w' => e = .returned (.tuple #[.string (bA (prnL pl l1 l2 lx d n)), .int .i64 pl]) ∧ Below w.heap.size w w' := by
  have hB : Below w.heap.size w (w.alloc (.cells #[.string (bA l1), .string (bA l2), .bool lx, .slice ad n c] 24)) := (Below.refl _ _).alloc (Nat.le_refl _) _
  have cC := hc _ hB
  by_cases h : pl = 0
  · subst h
    obtain ⟨q1, q2, q3, q4⟩ := hP rfl
    have e : prnL 0 l1 l2 lx d n = playL l1 l2 lx d n := if_pos rfl
    rw [e]
    clear hc e
    go_enter func21, ntmps21
    go_wp2_with fail
    go_at_call 15
    refine cC.mono ?_
    rintro e w2 ⟨rfl, hk2⟩
    have hx2 := (at_new _ _ _).below hk2 (at_new _ _ _).lt
    obtain ⟨⟨x0, x1, x2, x3⟩, -⟩ := box4 hx2
    have hb2 := hB.trans (hk2.mono (by simp))
    have cT := text_w (l1 := l1) (l2 := l2) (lx := lx) (by omega) (by omega) (hm.below hb2) (by omega) q4
    clear cC hm q1 q2 q3 q4 hP
    go_wp2_with fail
    go_at_call 84
    refine cT.mono ?_
    rintro e w3 ⟨rfl, hk3⟩
    go_wp2
    go_ret2
    exact ⟨rfl, hb2.trans (hk3.mono hb2.size)⟩
  · have e : bA (prnL pl l1 l2 lx d n) = ({ data := #[] } : ByteArray) := by unfold prnL; rw [if_neg h]; rfl
    rw [e]
    clear hc hm e hP
    go_enter func21, ntmps21
    go_wp2_with fail
    go_at_call 15
    refine cC.mono ?_
    rintro e w2 ⟨rfl, hk2⟩
    go_wp2
    go_ret2
    exact ⟨rfl, hB.trans (hk2.mono (by simp))⟩
end
end Go.Proofs.Tryz

namespace Go.Proofs.Tryz
open Go Go.Am Go.RowKit Go.Dr
set_option maxRecDepth 100000

section
variable {w : World} {lx : Bool} {pvv ev : Value} {ad0 : Option Addr} {n c : Nat} {d : Nat → MvD}
theorem sum_bound (q : MvD → Bool) (d : Nat → MvD) : ∀ i, 0 ≤ sumK (one q) d i ∧ sumK (one q) d i ≤ i
  | 0 => ⟨Int.le_refl _, Int.le_refl _⟩
  | i + 1 => by
    have := sum_bound q d i
    rw [sumK, one]
    split <;> omega
theorem outsR_w (hm : IsMoves w (.slice ad0 n c) d n) (hn : n ≤ 1000000) :
    Calls prog 48 #[.agg #[pvv, ev, .bool lx, .slice ad0 n c]] w fun e w' => e = .returned (.int .i64 (sumK (one outQ) d n)) ∧ Below w.heap.size w w' := by
  obtain ⟨a1, c1, e1, hnc, hM0⟩ := hm
  simp only [Value.slice.injEq, true_and] at e1
  obtain ⟨rfl, rfl⟩ := e1
  have hb2 : Below w.heap.size w (w.alloc (.cells #[pvv, ev, .bool lx, .slice ad0 n c] 24)) := (Below.refl _ _).alloc (Nat.le_refl _) _
  go_enter func48, ntmps48
  go_wp2
  go_loopw [3, 4] (fun r s wr => ∃ (i : Nat) (t : Int), i ≤ n ∧ s = .int .i64 i ∧ r = .int .i64 t ∧ Hid (t = sumK (one outQ) d i) ∧ At wr w.heap.size #[pvv, ev, .bool lx, .slice ad0 n c] 24 ∧ Below w.heap.size w wr) (fun _ s _ => n - (numOf' s).toNat)
  case atStart => exact ⟨0, 0, Nat.zero_le _, rfl, rfl, Lib.hid rfl, at_new _ _ _, hb2⟩
  case round =>
    clear hb2
    obtain ⟨i, t, hi, rfl, rfl, hsum, hbox, hbel⟩ := hrel
    have hc3 : wr.cell? ⟨w.heap.size, 3, none⟩ = some (.slice ad0 n c) := (box4 hbox).1.2.2.2
    by_cases hin : i < n
    · obtain ⟨b, off, rfl, hM⟩ := hM0 (by omega)
      obtain ⟨s, ad, m, cc, hmv⟩ := mv_at ((hM i hin).below hbel)
      clear hM hM0
      obtain ⟨p0, p1, p2, p3, p4, -, -, -, -⟩ := hmv
      have hbd := sum_bound outQ d i
      rw [← hsum.out] at hbd
      have ht0 : 0 ≤ t := hbd.1
      have ht1 : t ≤ 1000000 := by omega
      clear hbd
      have hstep : Hid (sumK (one outQ) d (i + 1) = t + (if decide ((d i).x ≠ 0) = true then 1 else 0)) := Lib.hid (by rw [hsum.out, sumK, one, outQ])
      obtain ⟨xb, hxb⟩ : ∃ xb, decide ((d i).x ≠ 0) = xb := ⟨_, rfl⟩
      rw [hxb] at p2 hstep
      clear p0 p1 p3 p4 hxb hsum
      cases xb with
      | true =>
        go_wp2
        go_roundw
        case rel => exact ⟨i + 1, t + 1, by omega, by go_num, by go_num, Lib.hid (by rw [hstep.out]; rfl), hbox, hbel⟩
        case measure => simp [numOf'] <;> omega
      | false =>
        go_wp2
        go_roundw
        case rel => exact ⟨i + 1, t, by omega, by go_num, rfl, Lib.hid (by rw [hstep.out]; simp), hbox, hbel⟩
        case measure => simp [numOf'] <;> omega
    · obtain rfl : i = n := by omega
      clear hM0
      go_wp2
      go_ret
      exact ⟨by rw [hsum.out]; rfl, hbel⟩
theorem runsR_w (hm : IsMoves w (.slice ad0 n c) d n) (hn : n ≤ 1000000) :
    Calls prog 49 #[.agg #[pvv, ev, .bool lx, .slice ad0 n c]] w fun e w' => e = .returned (.int .i64 (sumK (one runQ) d n)) ∧ Below w.heap.size w w' := by
  obtain ⟨a1, c1, e1, hnc, hM0⟩ := hm
  simp only [Value.slice.injEq, true_and] at e1
  obtain ⟨rfl, rfl⟩ := e1
  have hb2 : Below w.heap.size w (w.alloc (.cells #[pvv, ev, .bool lx, .slice ad0 n c] 24)) := (Below.refl _ _).alloc (Nat.le_refl _) _
  go_enter func49, ntmps49
  go_wp2
  go_loopw [3, 4] (fun r s wr => ∃ (i : Nat) (t : Int), i ≤ n ∧ s = .int .i64 i ∧ r = .int .i64 t ∧ Hid (t = sumK (one runQ) d i) ∧ At wr w.heap.size #[pvv, ev, .bool lx, .slice ad0 n c] 24 ∧ Below w.heap.size w wr) (fun _ s _ => n - (numOf' s).toNat)
  case atStart => exact ⟨0, 0, Nat.zero_le _, rfl, rfl, Lib.hid rfl, at_new _ _ _, hb2⟩
  case round =>
    clear hb2
    obtain ⟨i, t, hi, rfl, rfl, hsum, hbox, hbel⟩ := hrel
    have hc3 : wr.cell? ⟨w.heap.size, 3, none⟩ = some (.slice ad0 n c) := (box4 hbox).1.2.2.2
    by_cases hin : i < n
    · obtain ⟨b, off, rfl, hM⟩ := hM0 (by omega)
      obtain ⟨s, ad, m, cc, hmv⟩ := mv_at ((hM i hin).below hbel)
      clear hM hM0
      obtain ⟨p0, p1, p2, p3, p4, -, -, -, -⟩ := hmv
      have hbd := sum_bound runQ d i
      rw [← hsum.out] at hbd
      have ht0 : 0 ≤ t := hbd.1
      have ht1 : t ≤ 1000000 := by omega
      clear hbd
      have eq : runQ (d i) = (!decide ((d i).x ≠ 0) && decide ((d i).to = 4)) := by unfold runQ; simp
      have hstep : Hid (sumK (one runQ) d (i + 1) = t + (if (!decide ((d i).x ≠ 0) && decide ((d i).to = 4)) = true then 1 else 0)) := Lib.hid (by rw [hsum.out, sumK, one, eq])
      obtain ⟨xb, hxb⟩ : ∃ xb, decide ((d i).x ≠ 0) = xb := ⟨_, rfl⟩
      obtain ⟨f2, hf2⟩ : ∃ f2, (d i).to = f2 := ⟨_, rfl⟩
      rw [hxb] at p2 hstep
      rw [hf2] at p1 hstep
      clear p0 p3 p4 hxb hf2 hsum eq
      cases xb with
      | true =>
        go_wp2
        go_roundw
        case rel => exact ⟨i + 1, t, by omega, by go_num, rfl, Lib.hid (by rw [hstep.out]; simp), hbox, hbel⟩
        case measure => simp [numOf'] <;> omega
      | false =>
        by_cases h4 : f2 = 4
        · subst h4
          go_wp2
          go_roundw
          case rel => exact ⟨i + 1, t + 1, by omega, by go_num, by go_num, Lib.hid (by rw [hstep.out]; simp), hbox, hbel⟩
          case measure => simp [numOf'] <;> omega
        · go_wp2
          go_roundw
          case rel => exact ⟨i + 1, t, by omega, by go_num, rfl, Lib.hid (by rw [hstep.out]; simp [h4]), hbox, hbel⟩
          case measure => simp [numOf'] <;> omega
    · obtain rfl : i = n := by omega
      clear hM0
      go_wp2
      go_ret
      exact ⟨by rw [hsum.out]; rfl, hbel⟩
end
end Go.Proofs.Tryz

namespace Go.Proofs.Tryz
open Go Go.Am Go.RowKit Go.Dr
set_option maxRecDepth 100000

def rngV (x lo hi : Int) : Int := if lo ≤ x ∧ x ≤ hi then 0 else 3
def drwV (k n : Int) : Int := if rngV k 1 2147483398 = 0 then rngV n 0 256 else rngV k 1 2147483398
theorem drwV_zero {k n : Int} (h : drwV k n = 0) : 1 ≤ k ∧ k ≤ 2147483398 ∧ 0 ≤ n ∧ n ≤ 256 := by
  unfold drwV rngV at h
  by_cases q1 : 1 ≤ k ∧ k ≤ 2147483398
  · rw [if_pos q1, if_pos rfl] at h
    by_cases q2 : 0 ≤ n ∧ n ≤ 256
    · exact ⟨q1.1, q1.2, q2.1, q2.2⟩
    · rw [if_neg q2] at h; cases h
  · rw [if_neg q1] at h; cases h
theorem checkDraw_w (k n : Int) (w : World) : Calls prog 39 #[.int .i64 k, .int .i64 n] w fun e w' => e = .returned (.int .i64 (drwV k n)) ∧ Below w.heap.size w w' := by
  obtain ⟨a, ha⟩ : ∃ a, rngV k 1 2147483398 = a := ⟨_, rfl⟩
  obtain ⟨b, hb⟩ : ∃ b, rngV n 0 256 = b := ⟨_, rfl⟩
  obtain ⟨r, hr⟩ : ∃ r, drwV k n = r := ⟨_, rfl⟩
  have cA : Calls prog 31 #[.int .i64 k, .int .i64 1, .int .i64 2147483398] w fun e w' => e = .returned (.int .i64 a) ∧ w' = w := by rw [← ha]; exact range_w _ _ _ _
  have cB : Calls prog 31 #[.int .i64 n, .int .i64 0, .int .i64 256] w fun e w' => e = .returned (.int .i64 b) ∧ w' = w := by rw [← hb]; exact range_w _ _ _ _
  have cF : ∀ (g : Nat) (W : World), W.cell? ⟨g, 0, none⟩ = some (.int .i64 a) → W.cell? ⟨g, 1, none⟩ = some (.int .i64 b) → Calls prog 30 #[.slice (some ⟨g, 0, none⟩) 2 2] W fun e w' => e = .returned (.int .i64 r) ∧ Below W.heap.size W w' := fun g W h0 h1 => by rw [← hr, drwV, ha, hb]; exact firstR_w g a b W h0 h1
  rw [hr]
  clear ha hb hr
  go_enter func39, ntmps39
  go_wp2_with fail
  go_at_call 31
  refine cA.mono ?_
  rintro e w' ⟨rfl, rfl⟩
  go_wp2_with fail
  go_at_call 31
  refine cB.mono ?_
  rintro e w'' ⟨rfl, rfl⟩
  clear cA cB
  go_wp2_with fail
  go_at_call 30
  refine (cF _ _ (by simp) (by simp)).mono ?_
  rintro e w6 ⟨rfl, hk6⟩
  go_wp2
  go_ret
  exact ⟨rfl, ((Below.refl _ _).alloc (Nat.le_refl _) _).trans (hk6.mono (by simp))⟩
end Go.Proofs.Tryz
