/- Part of a reckoning of a Go program over abstract values, proved sound against the model. -/
import Derived.Test.YtedphjbgimkmlaaDoorAiIA1
set_option linter.unusedSimpArgs false
set_option linter.unusedVariables false
namespace Go.Proofs.YtedphjbgimkmlaaDoor.Ai
open Go.Proofs
set_option maxRecDepth 100000
theorem awake0 : pureCall (call cfgA 100000) 5 [] = some (.bool true) := by kernel_rfl
theorem awake_ok : PureOk Tryd.prog cfg0 5 [] (.bool true) := (pure_ok okA (fn := Tryd.f5) (by kernel_rfl) awake0).cfg rfl
def e5 : List V → Option V := fun args => if args.isEmpty then some (.bool true) else none
theorem t5 : ∀ args v, e5 args = some v → PureOk Tryd.prog cfg0 5 args v := fun args v h => by
  cases args with
  | nil => injection h with h; subst h; exact awake_ok
  | cons => cases h
end Go.Proofs.YtedphjbgimkmlaaDoor.Ai

