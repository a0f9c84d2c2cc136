/- Part of a reckoning of a Go program over abstract values, proved sound against the model. -/
import Derived.Test.YtejjnakhijgkaaaGreatDoorAiDE51
import Derived.Test.YtejjnakhijgkaaaGreatDoorAiDE52
import Derived.Test.YtejjnakhijgkaaaGreatDoorAiDE53
namespace Go.Proofs.YtejjnakhijgkaaaGreatDoor.Ai
open Go.Proofs
set_option maxRecDepth 100000
theorem run4_true (d e f : Int) : run4 d e f = true := ints3_of (fun c hc => match c, hc with
  | 0, _ => all4_0
  | 1, _ => all4_1
  | 2, _ => all4_2
  | 3, _ => all4_3
  | 4, _ => all4_4
  | 5, _ => all4_5
  | 6, _ => all4_6
  | 7, _ => all4_7
  | 8, _ => all4_8
  | 9, _ => all4_9
  | 10, _ => all4_10
  | c + 11, h => absurd h (by omega)) d e f
end Go.Proofs.YtejjnakhijgkaaaGreatDoor.Ai
