/- The play seat's context of the abstract machine. -/
import Derived.Test.YtfnpmcbilejbbaaGreatDoorAmY
import Derived.Test.YtfnpmcbilejbbaaGreatDoorProg
import Derived.KernelRfl
import Derived.Lib.Bytealg
namespace Go.Proofs.Tryz
open Go Go.Am
def plans : List (Nat × List (Nat × List Step)) :=
  [(3, [(6, [.r 0 [], .r 2 [], .q 1 [], .w 3, .a 4, .w 5, .p 6]), (13, [.r 0 [], .r 1 [], .p 2, .p 3, .p 4, .p 5, .p 6, .p 7, .p 8, .r 9 [], .r 11 [], .q 10 [], .w 12, .p 13, .p 14, .p 15, .p 16, .p 17, .p 18, .p 19, .p 20, .p 21, .p 22, .p 23, .p 24, .p 25])]),
   (4, [(7, [.p 0, .r 1 [], .p 2, .r 3 [], .p 4, .p 5, .p 6, .a 12, .q 7 [], .p 8, .p 9, .p 10, .p 11, .w 13, .p 14, .p 15]), (12, [.p 0, .r 1 [], .p 2, .r 3 [], .p 4, .p 5]), (29, [.p 0, .r 1 [], .p 2, .r 3 [], .p 4, .p 5, .p 6, .a 12, .q 7 [], .p 8, .p 9, .p 10, .p 11, .w 13, .p 14, .p 15]), (34, [.p 0, .r 1 [], .p 2, .r 3 [], .p 4, .p 5, .p 6, .a 12, .q 7 [], .p 8, .p 9, .p 10, .p 11, .w 13, .p 14, .p 15])]),
   (6, [(7, [.p 0, .p 1, .p 2, .p 3, .p 4, .p 5, .p 6, .p 7, .p 8, .p 9, .p 10, .p 11, .p 12, .p 13, .p 14, .p 15, .p 16, .r 17 [], .q 18 [], .w 19, .p 20, .p 21, .p 22, .p 23, .p 24, .p 25, .p 26, .p 27, .p 28, .p 29, .p 30, .p 31, .a 32, .w 33, .p 34, .p 35, .p 36, .p 37, .a 38, .w 39, .p 40, .p 41, .p 42, .r 43 [], .p 44, .p 45, .p 46])]),
   (7, [(7, [.p 0, .p 1, .p 2, .p 3, .p 4, .p 5, .p 6, .w 7, .p 8])]),
   (8, [(1, [.r 0 [], .r 2 [], .q 1 [], .w 3, .a 4, .w 5, .p 6])]),
   (11, [(1, [.p 0, .r 1 [], .p 3, .r 4 [], .q 2 [], .w 5, .a 6, .w 7, .p 8]), (4, [.p 0, .r 1 [], .p 3, .r 4 [], .q 2 [], .w 5, .p 6])]),
   (12, [(4, [.p 0, .p 1, .p 2, .p 3, .p 4, .p 5, .p 6, .w 7])]),
   (13, [(1, [.p 0, .r 1 [], .p 2, .r 3 [], .p 4, .p 5, .r 6 [], .p 7, .r 8 [], .p 9, .p 10, .p 11])]),
   (14, [(1, [.p 0, .r 1 [], .p 3, .r 4 [], .q 2 [], .w 5, .a 6, .w 7, .p 8])]),
   (25, [(6, [.p 0, .r 1 [], .p 2, .p 3, .r 4 [], .p 5, .r 6 [], .p 7, .p 8, .r 9 [], .w 10, .p 11])]),
   (26, [(6, [.p 0, .p 1, .p 2, .r 3 [], .p 4, .p 5, .p 6, .r 7 [], .p 8])]),
   (29, [(16, [.p 0, .p 1, .p 2, .p 3, .p 4, .p 5, .p 6, .r 7 [], .p 8, .p 9, .p 10, .r 11 [], .p 12, .w 13, .p 14, .w 15])]),
   (33, [(2, [.p 0, .p 1, .p 2, .p 3, .w 4, .w 5])]),
   (36, [(2, [.p 0, .p 1, .p 2, .p 3, .w 4, .w 5])]),
   (37, [(9, [.p 0, .r 1 [], .p 2, .p 3, .p 4, .p 5, .r 6 [], .p 11, .r 12 [], .p 13, .p 14, .q 7 [], .p 8, .p 9, .q 10 [], .w 15, .a 16, .w 17, .p 18]), (15, [.r 0 [], .p 2, .p 3, .w 1, .p 4, .p 5, .r 6 [], .p 7, .r 8 [], .p 9, .p 10, .p 11, .p 12, .p 13, .r 14 [], .p 15, .p 16, .w 17, .a 18, .w 19, .p 20])]),
   (38, [(1, [.p 0, .r 1 [], .p 3, .r 4 [], .q 2 [], .w 5, .a 6, .p 7])]),
   (40, [(4, [.p 0, .p 1, .p 2, .p 4, .p 5, .w 3, .w 6, .p 7])]),
   (42, [(5, [.p 0, .p 1, .p 2, .p 3, .p 4, .p 5, .p 6, .p 7, .a 8, .w 9])]),
   (50, [(10, [.p 0, .p 1, .p 2, .p 3, .p 4, .p 5, .p 6, .r 7 [], .p 8, .p 9, .p 10, .p 11, .p 12, .p 13, .r 14 [], .p 15, .p 16])]),
   (53, [(1, [.p 0, .r 1 [], .p 3, .r 4 [], .q 2 [], .w 5, .a 6, .w 7, .p 8]), (8, [.p 0, .r 1 [], .p 2, .r 3 [], .p 4, .p 5, .p 6, .p 7, .p 8, .r 9 [], .p 10, .p 11, .p 12, .p 13, .r 14 [], .p 15, .p 16, .p 17]), (10, [.p 0, .p 1, .p 2, .p 3, .r 4 [], .p 5, .p 6]), (11, [.p 0, .p 1, .p 2, .p 3, .p 4, .p 5, .p 6, .p 7, .p 9, .r 10 [], .p 11, .r 12 [], .q 8 [], .w 13, .a 14, .w 15, .p 16])]),
   (55, [(4, [.p 0, .r 1 [], .p 3, .p 5, .r 6 [], .p 9, .r 10 [], .q 2 [], .p 4, .q 7 [], .p 8, .p 11, .p 12])]),
   (76, [(6, [.p 0, .p 1, .p 2, .r 3 [], .p 4, .p 5, .p 6, .p 7, .r 8 [], .p 9]), (11, [.p 0, .p 1, .p 2, .r 3 [], .p 4, .p 5, .p 6, .p 7, .r 8 [], .p 9])]),
   (80, [(6, [.p 0, .p 1, .p 2, .p 3, .p 4, .p 5, .p 6]), (7, [.p 0, .p 1, .p 2, .p 3, .p 4, .p 5, .p 6, .w 7, .p 8]), (14, [.p 0, .p 1, .p 2, .p 3, .p 4, .p 5, .p 6, .p 7, .p 8, .p 9, .p 10]), (31, [.p 0, .p 1, .p 2, .p 3, .p 4, .p 5, .p 6, .p 7, .p 8, .p 9, .p 10])]),
   (86, [(3, [.p 0, .p 1, .p 2, .r 3 [], .p 4, .p 5, .p 6, .p 7, .r 8 [], .p 9, .p 10, .p 11, .p 12])]),
   (88, [(1, [.p 0, .p 1, .p 2, .r 3 [], .p 5, .p 6, .p 7, .r 8 [], .p 9, .q 4 [], .w 10, .p 11])]),
   (95, [(17, [.p 0, .p 1, .p 2, .p 3, .p 4, .p 5, .p 6, .r 7 [], .p 8, .p 9, .p 10, .r 11 [], .w 12, .p 13, .p 14])]),
   (106, [(0, [.p 0, .p 1, .p 2, .r 3 [], .p 4, .p 5, .p 6, .p 7, .p 9, .p 10, .p 11, .r 12 [], .p 13, .q 8 [], .p 14, .p 15])]),
   (113, [(4, [.p 0, .p 1, .p 2, .p 3, .p 4, .p 5, .p 6, .r 7 [], .p 8, .p 9, .p 10, .p 11, .r 12 [], .w 13, .p 14]), (6, [.p 0, .p 1, .p 2, .p 3, .p 4, .p 5, .p 6, .p 7, .p 8, .r 9 [], .p 10, .p 11, .p 12, .r 13 [], .p 14, .w 15, .p 16, .w 17])]),
   (114, [(10, [.p 0, .p 1, .p 2, .p 3, .p 4, .p 5, .p 6, .p 7, .p 8, .p 9, .p 10, .r 11 [], .p 12, .p 13, .p 14, .r 15 [], .p 16, .w 17, .p 18, .w 19])]),
   (115, [(10, [.p 0, .p 1, .p 2, .p 3, .p 4, .p 5, .p 6, .p 7, .p 8, .p 9, .p 10, .r 11 [], .p 12, .p 13, .p 14, .r 15 [], .p 16, .w 17, .p 18, .w 19])]),
   (117, [(3, [.p 0, .p 1, .p 2, .p 3, .p 4, .p 5, .p 6, .r 7 [], .p 8, .p 9, .p 10, .r 11 [], .p 12, .w 13, .p 14, .w 15])]),
   (118, [(5, [.p 0, .p 1, .p 2, .p 3, .p 4, .p 5, .p 6, .r 7 [], .p 8, .p 9, .p 10, .p 11, .r 12 [], .w 13, .p 14, .p 15]), (11, [.p 0, .p 1, .p 2, .p 3, .p 4, .p 5, .p 6, .p 7, .p 8, .r 9 [], .p 10, .p 11, .p 12, .r 13 [], .p 14, .w 15, .p 16, .w 17]), (16, [.p 0, .p 1, .p 2, .r 3 [], .p 4, .p 5, .p 6, .p 7, .r 8 [], .w 9, .p 10]), (17, [.p 0, .p 1, .p 2, .p 3, .p 4, .p 5, .p 6, .p 7, .p 8, .r 9 [], .p 10, .p 11, .p 12, .r 13 [], .p 14, .w 15, .p 16, .w 17]), (22, [.p 0, .p 1, .p 2, .r 3 [], .p 4, .p 5, .p 6, .p 7, .r 8 [], .w 9, .p 10]), (23, [.p 0, .p 1, .p 2, .p 3, .p 4, .p 5, .p 6, .p 7, .p 8, .r 9 [], .p 10, .p 11, .p 12, .r 13 [], .p 14, .w 15, .p 16, .w 17])]),
   (120, [(1, [.p 0, .p 1, .p 2, .p 3, .p 4, .p 5, .p 6, .r 7 [], .p 8, .p 9, .p 10, .r 11 [], .p 12, .w 13, .p 14, .w 15]), (3, [.p 0, .p 1, .p 2, .p 3, .p 4, .p 5, .p 6, .r 7 [], .p 8, .p 9, .p 10, .r 11 [], .w 12, .p 13, .p 14]), (5, [.p 0, .p 1, .p 2, .p 3, .p 4, .p 5, .p 6, .r 7 [], .p 8, .p 9, .p 10, .r 11 [], .w 12, .p 13]), (8, [.p 0, .p 1, .p 2, .p 3, .p 4, .p 5, .p 6, .r 7 [], .p 8, .p 9, .p 10, .r 11 [], .p 12, .w 13, .p 14, .w 15])]),
   (121, [(1, [.p 0, .p 1, .p 2, .p 3, .p 4, .p 5, .p 6, .r 7 [], .p 8, .p 9, .p 10, .r 11 [], .p 12, .w 13, .p 14, .w 15]), (3, [.p 0, .p 1, .p 2, .p 3, .p 4, .p 5, .p 6, .r 7 [], .p 8, .p 9, .p 10, .r 11 [], .w 12, .p 13]), (5, [.p 0, .p 1, .p 2, .p 3, .p 4, .p 5, .p 6, .r 7 [], .p 8, .p 9, .p 10, .r 11 [], .w 12, .p 13, .p 14]), (8, [.p 0, .p 1, .p 2, .p 3, .p 4, .p 5, .p 6, .r 7 [], .p 8, .p 9, .p 10, .r 11 [], .p 12, .w 13, .p 14, .w 15]), (10, [.p 0, .p 1, .p 2, .p 3, .p 4, .p 5, .p 6, .r 7 [], .p 8, .p 9, .p 10, .r 11 [], .p 12, .w 13, .p 14, .w 15]), (13, [.p 0, .p 1, .p 2, .p 3, .p 4, .p 5, .p 6, .r 7 [], .p 8, .p 9, .p 10, .r 11 [], .w 12, .p 13]), (15, [.p 0, .p 1, .p 2, .p 3, .p 4, .p 5, .p 6, .r 7 [], .p 8, .p 9, .p 10, .r 11 [], .w 12, .p 13, .p 14]), (18, [.p 0, .p 1, .p 2, .p 3, .p 4, .p 5, .p 6, .r 7 [], .p 8, .p 9, .p 10, .r 11 [], .p 12, .w 13, .p 14, .w 15]), (21, [.p 0, .p 1, .p 2, .p 3, .p 4, .p 5, .p 6, .r 7 [], .p 8, .p 9, .p 10, .r 11 [], .p 12, .w 13, .p 14, .w 15])]),
   (124, [(4, [.p 0, .p 1, .p 2, .p 3, .p 4, .p 5, .p 6, .p 7, .r 8 [], .p 9, .p 10, .p 11, .p 12, .r 13 [], .w 14, .p 15, .p 16]), (6, [.p 0, .p 1, .p 2, .p 3, .p 4, .p 5, .p 6, .p 7, .p 8, .r 9 [], .p 10, .p 11, .p 12, .r 13 [], .p 14, .w 15, .p 16, .w 17])]),
   (125, [(5, [.p 0, .p 1, .p 2, .p 3, .r 4 [], .p 5, .p 6, .p 7, .r 8 [], .w 9, .p 10]), (11, [.p 0, .p 1, .p 2, .p 3, .p 4, .p 5, .p 6, .p 7, .p 8, .r 9 [], .p 10, .p 11, .p 12, .r 13 [], .p 14, .w 15, .p 16, .w 17]), (17, [.p 0, .p 1, .p 2, .p 3, .r 4 [], .p 5, .p 6, .p 7, .r 8 [], .w 9, .p 10, .p 11]), (23, [.p 0, .p 1, .p 2, .p 3, .p 4, .p 5, .p 6, .p 7, .p 8, .r 9 [], .p 10, .p 11, .p 12, .r 13 [], .p 14, .w 15, .p 16, .w 17]), (35, [.p 0, .p 1, .p 2, .p 3, .p 4, .p 5, .r 6 [], .p 7, .p 8, .p 9, .r 10 [], .w 11, .p 12, .p 13])]),
   (132, [(3, [.p 0, .p 1, .p 2, .p 3, .p 4, .p 5, .p 6, .p 7, .p 8, .p 9, .r 10 [], .p 11, .p 12, .p 13, .p 14, .p 15, .p 16, .r 17 [], .w 18, .p 19]), (5, [.p 0, .p 1, .p 2, .p 3, .p 4, .r 5 [], .p 6, .p 7, .p 8, .p 9, .p 10, .r 11 [], .w 12, .p 13]), (6, [.p 0, .p 1, .p 2, .p 3, .p 4, .p 5, .p 6, .p 7, .p 8, .p 9, .p 10, .p 11, .p 12, .r 13 [], .p 14, .p 15, .p 16, .p 17, .p 18, .r 19 [], .p 20, .w 21, .p 22, .w 23])]),
   (134, [(1, [.p 0, .p 1, .r 2 [], .p 3, .p 4, .r 5 [], .p 6, .p 7, .p 8, .w 9]), (2, [.p 0, .p 1, .r 2 [], .p 3, .p 4, .r 5 [], .p 6, .p 7, .p 8, .w 9]), (3, [.p 0, .p 1, .r 2 [], .p 3, .p 4, .r 5 [], .p 6, .p 7, .p 8, .w 9])]),
   (138, [(1, [.p 0, .p 1, .p 2, .r 3 [], .p 4, .p 5, .p 6, .r 7 [], .w 8])]),
   (139, [(3, [.p 0, .p 1, .p 2, .p 3, .p 4, .p 5, .p 6, .p 7, .p 8, .p 9, .p 10, .p 11, .p 12, .r 13 [], .p 14, .p 15, .p 16, .p 17, .p 18, .r 19 [], .p 20, .w 21, .p 22, .w 23])])]

def assoc {α : Type} (k : Nat) : List (Nat × α) → Option α
  | [] => none
  | (i, x) :: l => bif Nat.beq i k then some x else assoc k l
def planOf (g r : Nat) : Option (List Step) := (assoc g plans).bind (assoc r)
def wy (a b c d : Int) : List Value := [.int .u8 a, .int .i64 b, .int .i64 c, .int .i64 d]
def safeT : List Value := wy 98 (4) (1) (4) ++ wy 97 (4) (1) (4) ++ wy 115 (-1) (1) (4) ++ wy 112 (4) (1) (4) ++ wy 107 (-1) (1) (4) ++ wy 116 (4) (1) (4) ++ wy 111 (4) (1) (4)
def outsT : List Value := wy 102 (1) (1) (1) ++ wy 103 (4) (0) (4) ++ wy 99 (1) (0) (-1) ++ wy 100 (-1) (0) (0) ++ wy 107 (1) (0) (-1) ++ wy 110 (1) (1) (4) ++ wy 121 (1) (0) (-1)
def baseOf (b o : Nat) : Option Value := bif Nat.beq b 0 then safeT[o]? else bif Nat.beq b 1 then outsT[o]? else none
def repU : Nat → List C
  | 0 => []
  | n + 1 => .unk :: repU n
def primSame (_ : Nat) (args : List V) (st : St) : Option (V × St) :=
  match args with
  | [x] => some (x, st)
  | _ => none
def primMake (_ : Nat) (args : List V) (st : St) : Option (V × St) :=
  match args with
  | [.a (.c (.sc (.int .i64 (.ofNat n))))] => bif Nat.ble n 1000000 then some (.a (.c (.sl st.next 0 n n true)), st.new (.cells (repU n) 5 true)) else none
  | _ => none
def primIdx (_ : Nat) (args : List V) (st : St) : Option (V × St) :=
  match args with
  | [.a (.c (.sc (.string s))), .a (.c (.sc (.int .u8 c)))] => some (.a (.c (.sc (.int .i64 (Lib.indexByte s.data.toList c.toNat.toUInt8)))), st)
  | _ => none
def primCnt (_ : Nat) (args : List V) (st : St) : Option (V × St) :=
  match args with
  | [.a (.c (.sc (.string s))), .a (.c (.sc (.int .u8 c)))] => some (.a (.c (.sc (.int .i64 (Lib.countByte s.data.toList c.toNat.toUInt8 : Nat)))), st)
  | _ => none
def primOf (f : FuncId) : Option (Nat → List V → St → Option (V × St)) :=
  bif Nat.beq f 126 then some primSame else bif Nat.beq f 127 then some primMake else bif Nat.beq f 129 then some primCnt else bif Nat.beq f 130 then some primIdx else none
def eqTs : List Nat := [23, 38, 57]
def fnBad : List Nat := []
noncomputable def cx : Cx := { fn := fun f => bif memN f fnBad then none else prog.funcs[f]?, ty := Go.Am.tyOf prog, base := baseOf, plan := planOf, eqT := fun t => memN t eqTs, prim := primOf, known := [], fns := fun _ _ => 0, defs := fun _ => none, outer := fun _ => none }
end Go.Proofs.Tryz
