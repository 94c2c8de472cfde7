/- On the seat of the open Play statements: a move, checked: the kernel's runs. On the seat of the open Play statements: a move, checked by the reference: the kernel's runs. -/
import Derived.Test.YthlmjjdlmidnlaaGreatDoorArM
namespace Go.Proofs.Tryz
open Go Go.Am
set_option maxRecDepth 100000
theorem runMove0 (g : Nat → List Int → Int) : runM g 18 [(.eq mSn (L 1), false)] moveP = true := by kernel_rfl
theorem runMove1 (g : Nat → List Int → Int) : runM g 18 [(.eq mSn (L 1), true), (.eq mOu (L 0), true)] moveP = true := by kernel_rfl
theorem runMove2 (g : Nat → List Int → Int) : runM g 18 [(.eq mSn (L 1), true), (.eq mOu (L 0), false)] moveP = true := by kernel_rfl
end Go.Proofs.Tryz

namespace Go.Proofs.Tryz
open Go Go.Am
set_option maxRecDepth 100000
theorem runMoveR0 (g : Nat → List Int → Int) : runM g 20 [(.eq mSn (L 1), false)] moveR = true := by kernel_rfl
theorem runMoveR1 (g : Nat → List Int → Int) : runM g 20 [(.eq mSn (L 1), true), (.eq mOu (L 0), true)] moveR = true := by kernel_rfl
theorem runMoveR2 (g : Nat → List Int → Int) : runM g 20 [(.eq mSn (L 1), true), (.eq mOu (L 0), false)] moveR = true := by kernel_rfl
end Go.Proofs.Tryz
