/- Part of a reckoning of a Go program over abstract values, proved sound against the model. -/
import Derived.Test.YtejjnakhijgkaaaGreatDoorAiDE4
namespace Go.Proofs.YtejjnakhijgkaaaGreatDoor.Ai
open Go.Proofs
set_option maxRecDepth 100000
theorem all4_0 (k m n : Nat) : ints2 (fun e f => run4 (pat 0 k) e f) m n = true := by kernel_rfl
theorem all4_1 (k m n : Nat) : ints2 (fun e f => run4 (pat 1 k) e f) m n = true := by kernel_rfl
theorem all4_2 (k m n : Nat) : ints2 (fun e f => run4 (pat 2 k) e f) m n = true := by kernel_rfl
theorem all4_3 (k m n : Nat) : ints2 (fun e f => run4 (pat 3 k) e f) m n = true := by kernel_rfl
end Go.Proofs.YtejjnakhijgkaaaGreatDoor.Ai
