/- Part of a reckoning of a Go program over abstract values, proved sound against the model. -/
import Derived.Test.YtejjnakhijgkaaaGreatDoorAiDE4
namespace Go.Proofs.YtejjnakhijgkaaaGreatDoor.Ai
open Go.Proofs
set_option maxRecDepth 100000
theorem all4_8 (k m n : Nat) : ints2 (fun e f => run4 (pat 8 k) e f) m n = true := by kernel_rfl
theorem all4_9 (k m n : Nat) : ints2 (fun e f => run4 (pat 9 k) e f) m n = true := by kernel_rfl
theorem all4_10 (k m n : Nat) : ints2 (fun e f => run4 (pat 10 k) e f) m n = true := by kernel_rfl
end Go.Proofs.YtejjnakhijgkaaaGreatDoor.Ai
