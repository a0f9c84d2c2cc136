/- Part of a reckoning of a Go program over abstract values, proved sound against the model. -/
import Derived.Test.YtejjnakhijgkaaaGreatDoorAiDE4
namespace Go.Proofs.YtejjnakhijgkaaaGreatDoor.Ai
open Go.Proofs
set_option maxRecDepth 100000
theorem all4_4 (k m n : Nat) : ints2 (fun e f => run4 (pat 4 k) e f) m n = true := by kernel_rfl
theorem all4_5 (k m n : Nat) : ints2 (fun e f => run4 (pat 5 k) e f) m n = true := by kernel_rfl
theorem all4_6 (k m n : Nat) : ints2 (fun e f => run4 (pat 6 k) e f) m n = true := by kernel_rfl
theorem all4_7 (k m n : Nat) : ints2 (fun e f => run4 (pat 7 k) e f) m n = true := by kernel_rfl
end Go.Proofs.YtejjnakhijgkaaaGreatDoor.Ai
