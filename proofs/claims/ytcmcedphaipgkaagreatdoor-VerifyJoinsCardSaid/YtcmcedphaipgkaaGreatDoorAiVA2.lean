/- Part of a reckoning of a Go program over abstract values, proved sound against the model. -/
import Derived.Test.YtcmcedphaipgkaaGreatDoorAiVA1
set_option linter.unusedSimpArgs false
set_option linter.unusedVariables false
namespace Go.Proofs.YtcmcedphaipgkaaGreatDoor.Ai
noncomputable section
open Go.Proofs
set_option maxRecDepth 100000
theorem awake0 : pureCall (call cfgA 100000) 4 [] = some (.bool true) := by kernel_rfl
theorem awake_ok : PureOk Tryz.prog cfg0 4 [] (.bool true) := (pure_ok okA (fn := Tryz.f4) (by kernel_rfl) awake0).cfg rfl
def e4 : List V → Option V := fun args => if args.isEmpty then some (.bool true) else none
theorem t4 : ∀ args v, e4 args = some v → PureOk Tryz.prog cfg0 4 args v := fun args v h => by
  cases args with
  | nil => injection h with h; subst h; exact awake_ok
  | cons => cases h
end
end Go.Proofs.YtcmcedphaipgkaaGreatDoor.Ai

