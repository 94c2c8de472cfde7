/- The season seat's context of the abstract machine: what the kernel checks of it. -/
import Derived.Test.YtbfonnoebbjenaaGreatDoorAmP
namespace Go.Proofs.Tryz
open Go Go.Am

theorem namesOk : (prog.funcs.toList.all fun F => !(F.name == "runtime.NumGoroutine")) = true := by kernel_rfl
theorem sizeOk : Nat.ble prog.funcs.size 600 = true := by kernel_rfl
noncomputable def planFn (f : Nat) : Bool := match prog.funcs[f]? with
  | some F => (match F.body with | some c => plansOk cx f c | none => true)
  | none => true
theorem plansAll : (nats 600).all planFn = true := by kernel_rfl

noncomputable def eqOk (t : TypeId) : Bool := !(prog.stoodInHeld t) && !(prog.eqGuardType prog.depth t) && (match prog.underlying t with | some (.struct fs) => fs.toList.all fun f => !(f.name == "_") | some (.array _ _) => true | _ => false)
theorem eqsAll : eqTs.all eqOk = true := by kernel_rfl
theorem h224 : prog.funcs[224]? = some f224 := by kernel_rfl
theorem n224 : (f224.name == "runtime.NumGoroutine") = false := by kernel_rfl
theorem b224 : f224.body.isNone = true := by kernel_rfl
theorem x224 : Extern.findNext f224 = none := by kernel_rfl
theorem e224 : Extern.find f224 = some Extern.AbiNoEscape.same := by kernel_rfl
theorem h250 : prog.funcs[250]? = some f250 := by kernel_rfl
theorem n250 : (f250.name == "runtime.NumGoroutine") = false := by kernel_rfl
theorem b250 : f250.body.isNone = true := by kernel_rfl
theorem x250 : Extern.findNext f250 = none := by kernel_rfl
theorem r250 : f250.resultTypes = #[241] := by kernel_rfl
theorem u241 : prog.underlying 241 = some (.slice 5) := by kernel_rfl
theorem size5 : (match cx.ty 5 with | some ty => Nat.beq ty.size 1 | none => false) = true := by kernel_rfl
theorem mixed : prog.follows .mixedOrders = true := by kernel_rfl
end Go.Proofs.Tryz
