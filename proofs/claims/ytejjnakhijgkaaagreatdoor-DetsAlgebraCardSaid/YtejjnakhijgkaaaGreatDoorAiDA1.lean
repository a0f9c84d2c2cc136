/- Part of a reckoning of a Go program over abstract values, proved sound against the model. -/
import Derived.Test.YtejjnakhijgkaaaGreatDoorAiP1
import Derived.Test.YtejjnakhijgkaaaGreatDoorChecked
namespace Go.Proofs.YtejjnakhijgkaaaGreatDoor.Ai
open Go.Proofs
set_option maxRecDepth 100000
def noTab : FuncId → List V → Option V := fun _ _ => none
def maskD : Nat := 2582249878086908589655919172003011874329705792829223512830659356540647622016841194629645353280137831435903171972747493375
def pures : List (Nat × Nat) := [(344, 10), (304, 11)]
/-- The table of determinisms, which the row lists. -/
def detsCells : List V := [.int .i64 6, .int .i64 0, .int .i64 2, .int .i64 7, .int .i64 1, .int .i64 3]
def globD : Nat → Option (List V) := fun g => if Nat.beq g 0 then some detsCells else none
theorem glob_free : ∀ g cs, globD g = some cs → V.freeL cs = true := fun g cs h => by
  unfold globD at h
  split at h
  · injection h with h; subst h; rfl
  · cases h
noncomputable def cfg0 : Cfg := mkCfg Tryz.prog maskD globD pures [] noTab
theorem mixed : Tryz.prog.follows .mixedOrders = true := Checked.mixed Tryz.checked
theorem exts : extsFine Tryz.prog pures = true := by kernel_rfl
theorem fns0 : fnsFine Tryz.prog cfg0 = true := by kernel_rfl
theorem ok0 : cfg0.Ok Tryz.prog := mkCfg_ok mixed glob_free fns0 exts (fun _ _ _ h => by cases h)
end Go.Proofs.YtejjnakhijgkaaaGreatDoor.Ai
