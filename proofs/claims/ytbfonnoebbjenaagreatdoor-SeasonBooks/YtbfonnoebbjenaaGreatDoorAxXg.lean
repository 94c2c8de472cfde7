/- On the season seat: a string that is handed, opened. -/
import Derived.Test.YtbfonnoebbjenaaGreatDoorAxL
namespace Go.Proofs.Tryz
open Go Go.Am Go.ChangeShapes Go.WideShapes Go.ChangeAt Go.RowKit
set_option maxRecDepth 100000

theorem str_arg {W : World} {r : Reach} {b0 : Nat} {v : Value} (h : Value.okWide prog W r b0 9 v) : ∃ l : List UInt8, v = .string (bA l) := by
  obtain ⟨s, rfl⟩ := okWide_string x9 h
  exact ⟨s.data.toList, by rw [bA_data]⟩
end Go.Proofs.Tryz
