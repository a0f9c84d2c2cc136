/- Part of a reckoning of a Go program over abstract values, proved sound against the model. -/
import Derived.Test.YtejjnakhijgkaabGreatDoorAiP1
import Derived.Test.YtejjnakhijgkaabGreatDoorAiZ2
import Derived.Test.YtejjnakhijgkaabGreatDoorChecked
namespace Go.Proofs.YtejjnakhijgkaabGreatDoor.Ai
open Go.Proofs
set_option maxRecDepth 100000
def noTab : FuncId → List V → Option V := fun _ _ => none
def maskD : Nat := 3213876088517980551083924184682325205044405987565585670602751
def pures : List (Nat × Nat) := [(125, 10), (133, 11), (24, 3), (36, 3), (69, 3), (27, 3), (57, 3), (58, 3)]
noncomputable def cfg0 : Cfg := mkCfg Tryz.prog maskD (fun _ => none) pures [] noTab
theorem mixed : Tryz.prog.follows .mixedOrders = true := Checked.mixed Tryz.checked
theorem exts : extsFine Tryz.prog pures = true := by kernel_rfl
theorem fns0 : fnsFine Tryz.prog cfg0 = true := by kernel_rfl
theorem ok0 : cfg0.Ok Tryz.prog := mkCfg_ok mixed (fun _ _ h => by cases h) fns0 exts (fun _ _ _ h => by cases h)
end Go.Proofs.YtejjnakhijgkaabGreatDoor.Ai
