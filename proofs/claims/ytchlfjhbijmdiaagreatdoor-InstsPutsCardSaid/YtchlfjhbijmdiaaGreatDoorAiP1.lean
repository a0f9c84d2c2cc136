/- Part of a reckoning of a Go program over abstract values, proved sound against the model. -/
import Derived.Test.YtchlfjhbijmdiaaGreatDoorAiZ2
set_option linter.unusedSimpArgs false
set_option linter.unusedVariables false
namespace Go.Proofs.YtchlfjhbijmdiaaGreatDoor.Ai

/-! ints by their patterns -/
/-- 0 to 7: the number itself; 8: any other one. -/
def cl:Int→Nat
 | .ofNat 0=>0
 | .ofNat 1=>1
 | .ofNat 2=>2
 | .ofNat 3=>3
 | .ofNat 4=>4
 | .ofNat 5=>5
 | .ofNat 6=>6
 | .ofNat 7=>7
 | _=>8

def isTrue:Option (AE×S)→Bool
 | some (.ret (.bool b),_)=>b
 | _=>false
end Go.Proofs.YtchlfjhbijmdiaaGreatDoor.Ai

