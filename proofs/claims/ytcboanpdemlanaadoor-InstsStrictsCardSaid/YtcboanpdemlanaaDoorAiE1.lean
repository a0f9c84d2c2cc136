/- Part of a reckoning of a Go program over abstract values, proved sound against the model. -/
import Derived.Test.YtcboanpdemlanaaDoorAiD2
import Derived.Test.YtcboanpdemlanaaDoorChecked
namespace Go.Proofs.YtcboanpdemlanaaDoor.Ai
open Go.Proofs
set_option maxRecDepth 100000
def noTab : FuncId → List V → Option V := fun _ _ => none
def maskD : Nat := 10889035741470030830827987437816582766591
noncomputable def cfg0 : Cfg := mkCfg Tryd.prog maskD (fun _ => none) [(77, 10), (80, 11)] [] noTab
theorem mixed : Tryd.prog.follows .mixedOrders = true := Checked.mixed Tryd.checked
theorem exts : extsFine Tryd.prog [(77, 10), (80, 11)] = true := by kernel_rfl
theorem fns0 : fnsFine Tryd.prog cfg0 = true := by kernel_rfl
theorem ok0 : cfg0.Ok Tryd.prog := mkCfg_ok mixed (fun _ _ h => by cases h) fns0 exts (fun _ _ _ h => by cases h)
end Go.Proofs.YtcboanpdemlanaaDoor.Ai
