/- On the seat of the open Play statements: PlayForms: the kernel's runs. On the seat of the open Play statements: PlayForms: the kernel's runs. On the seat of the open Play statements: PlayForms: the kernel's runs. On the seat of the open Play statements: PlayForms: the kernel's runs. -/
import Derived.Test.YthlmjjdlmidnlaaGreatDoorArI
namespace Go.Proofs.Tryz
open Go Go.Am
set_option maxRecDepth 100000
theorem runFn (g : Nat → List Int → Int) : runF none g [(.le mL (L 6), false)] = true := by kernel_rfl
theorem runF0 (g : Nat → List Int → Int) : runF (some 0) g [] = true := by kernel_rfl
theorem runF1 (g : Nat → List Int → Int) : runF (some 1) g [] = true := by kernel_rfl
theorem runF2 (g : Nat → List Int → Int) : runF (some 2) g [] = true := by kernel_rfl
end Go.Proofs.Tryz

namespace Go.Proofs.Tryz
open Go Go.Am
set_option maxRecDepth 100000
theorem runF3 (g : Nat → List Int → Int) : runF (some 3) g [] = true := by kernel_rfl
theorem runF4 (g : Nat → List Int → Int) : runF (some 4) g [] = true := by kernel_rfl
end Go.Proofs.Tryz

namespace Go.Proofs.Tryz
open Go Go.Am
set_option maxRecDepth 100000
theorem runF5 (g : Nat → List Int → Int) : runF (some 5) g [] = true := by kernel_rfl
end Go.Proofs.Tryz

namespace Go.Proofs.Tryz
open Go Go.Am
set_option maxRecDepth 100000
theorem runF6 (g : Nat → List Int → Int) : runF (some 6) g [] = true := by kernel_rfl
end Go.Proofs.Tryz
