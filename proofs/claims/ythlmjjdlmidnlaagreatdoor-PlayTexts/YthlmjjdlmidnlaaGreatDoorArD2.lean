/- On the seat of the open Play statements: a play, checked by the reference: the kernel's runs. On the seat of the open Play statements: a play, checked by the reference: the kernel's runs. -/
import Derived.Test.YthlmjjdlmidnlaaGreatDoorArDc
namespace Go.Proofs.Tryz
open Go Go.Am
set_option maxRecDepth 100000
theorem runDn (g : Nat → List Int → Int) : runD none g [(.le mL (L 4), false)] = true := by kernel_rfl
theorem runD0 (g : Nat → List Int → Int) : runD (some 0) g [] = true := by kernel_rfl
theorem runD1 (g : Nat → List Int → Int) : runD (some 1) g [] = true := by kernel_rfl
theorem runD2 (g : Nat → List Int → Int) : runD (some 2) g [] = true := by kernel_rfl
end Go.Proofs.Tryz

namespace Go.Proofs.Tryz
open Go Go.Am
set_option maxRecDepth 100000
theorem runD3 (g : Nat → List Int → Int) : runD (some 3) g [] = true := by kernel_rfl
theorem runD4 (g : Nat → List Int → Int) : runD (some 4) g [] = true := by kernel_rfl
end Go.Proofs.Tryz
