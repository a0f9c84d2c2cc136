/-
  DERIVED. GIVEN WITH THE SEED: THE CARDS: each row of YtejjnakhijgkaaaGreatDoorRows.lean that lists a variable, with what it lists TIED to the program's text (the seventh form; the later family's looks); each row that meets fmt, with fmt's text TOLD by the authors' own Lean function (tested against real Go, not proved from fmt's source: count such statements apart). THE CARD IS WHAT COUNTS. Prove the row's statement (the work); the ties are given (YtejjnakhijgkaaaGreatDoorTie.lean); close each card by the builder's one call (the guide's Derived/Test/ToyasCard.lean, 'card_holds'). Laid BY PROGRAM, IN A SANDBOX (cutbox-door.mjs). By AI agents, Wed Nov 11 2026. No macro, syntax, notation, axiom, sorry.
-/
import Derived.Test.YtejjnakhijgkaaaGreatDoorRows
import GoSem.ClaimSeven
namespace Go.Proofs.YtejjnakhijgkaaaGreatDoor
namespace Rows

/-- THE TIED CARD OF 'cinnabarlaw19.DetsOperations'. -/
def detsOperationsCard : Claim7 := { stood := { row := detsOperationsRow, standIns := [], harness := (true, "5a4b0d466cef74aedbdb03f0b54eead95f67f69960e9145dc215e668e74849cd"), looks := true }, kinds := [], alts := [], laidByText := true, laidKinds := [.data, .data, .data, .data, .data, .pinned, .pinned, .pinned, .pinned, .pinned, .pinned], laidTests := true, laidLooks := .later }
def DetsOperationsCardSaid : Prop := Claim7.holds Tryz.pinned (.plain (OpenSpec.ofChange detsOperationsSpec)) detsOperationsCard

/-- THE TIED CARD OF 'cinnabarlaw19.DetsAlgebra'. -/
def detsAlgebraCard : Claim7 := { stood := { row := detsAlgebraRow, standIns := [], harness := (true, "5a4b0d466cef74aedbdb03f0b54eead95f67f69960e9145dc215e668e74849cd"), looks := true }, kinds := [], alts := [], laidByText := true, laidKinds := [.data, .data, .data, .data, .data, .pinned, .pinned, .pinned, .pinned, .pinned, .pinned], laidTests := true, laidLooks := .later }
def DetsAlgebraCardSaid : Prop := Claim7.holds Tryz.pinned (.plain (OpenSpec.ofChange detsAlgebraSpec)) detsAlgebraCard

/-- THE SECOND FORM's CARD OF 'cinnabarlaw19.DetsOperations'. -/
def detsOperationsUptoCard : Claim7 := { stood := { row := detsOperationsUptoRow, standIns := [], harness := (true, "5a4b0d466cef74aedbdb03f0b54eead95f67f69960e9145dc215e668e74849cd"), looks := true }, kinds := [], alts := [], laidByText := true, laidKinds := [.data, .data, .data, .data, .data, .pinned, .pinned, .pinned, .pinned, .pinned, .pinned], laidTests := true, laidLooks := .later }
def DetsOperationsUptoCardSaid : Prop := Claim7.holds Tryz.pinned (.plain (OpenSpec.upto detsOperationsSpec)) detsOperationsUptoCard

/-- THE SECOND FORM's CARD OF 'cinnabarlaw19.DetsAlgebra'. -/
def detsAlgebraUptoCard : Claim7 := { stood := { row := detsAlgebraUptoRow, standIns := [], harness := (true, "5a4b0d466cef74aedbdb03f0b54eead95f67f69960e9145dc215e668e74849cd"), looks := true }, kinds := [], alts := [], laidByText := true, laidKinds := [.data, .data, .data, .data, .data, .pinned, .pinned, .pinned, .pinned, .pinned, .pinned], laidTests := true, laidLooks := .later }
def DetsAlgebraUptoCardSaid : Prop := Claim7.holds Tryz.pinned (.plain (OpenSpec.upto detsAlgebraSpec)) detsAlgebraUptoCard
end Rows
end Go.Proofs.YtejjnakhijgkaaaGreatDoor
