/- Part of a reckoning of a Go program over abstract values, proved sound against the model. -/
import Derived.Test.YtejjnakhijgkaaaGreatDoorAiDA1
namespace Go.Proofs.YtejjnakhijgkaaaGreatDoor.Ai
open Go.Proofs
set_option maxRecDepth 100000
theorem awake0 : pureCall (call cfg0 100000) 5 [] = some (.bool true) := by kernel_rfl
theorem awake_ok : PureOk Tryz.prog cfg0 5 [] (.bool true) := pure_ok ok0 (fn := Tryz.f5) (by kernel_rfl) awake0
end Go.Proofs.YtejjnakhijgkaaaGreatDoor.Ai
