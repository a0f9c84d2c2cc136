/- Part of a reckoning of a Go program over abstract values, proved sound against the model. -/
import Derived.Test.YtejjnakhijgkaaaGreatDoorAiA3
namespace Go.Proofs.YtejjnakhijgkaaaGreatDoor.Ai
noncomputable section
/-- Structs and arrays that can be compared without a word. -/
def flatT (P : Program) (t : TypeId) : Bool :=
  match P.underlying t with
  | some (.struct _) => !P.stoodInHeld t && !P.eqGuardType P.depth t
  | some (.array _ _) => !P.eqGuardType P.depth t
  | _ => false
def mkTy (P : Program) (t : TypeId) : Option ATy := do
  let i ← P.info? t
  let u ← P.underlying t
  let z ← i.zero
  let zv ← ofConst 3 z
  if z.cells.size = i.size then some ⟨u, i.size, i.bytes, zv, flatT P t⟩ else none
def assoc (l : List (Nat × Nat)) (f : Nat) : Nat :=
  match l with
  | [] => 0
  | (a, b) :: r => if a == f then b else assoc r f
/-- 'mask': the functions that may be reckoned, as bits. -/
def mkCfg (P : Program) (mask : Nat) (glob : Nat → Option (List V)) (pure : List (Nat × Nat)) (raw : List Nat) (tab : FuncId → List V → Option V) : Cfg where
  fn f := if mask.testBit f then P.funcs[f]? else none
  ty t := mkTy P t
  glob := glob
  pure f := assoc pure f
  raw f := raw.contains f
  lies e n off u := liesAt P P.depth e (n / P.cellsOf e) off u 1
  tab := tab
end
end Go.Proofs.YtejjnakhijgkaaaGreatDoor.Ai
