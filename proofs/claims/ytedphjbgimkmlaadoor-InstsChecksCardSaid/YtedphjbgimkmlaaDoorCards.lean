/-
  DERIVED. GIVEN WITH THE SEED: THE CARDS: each row of YtedphjbgimkmlaaDoorRows.lean that lists a variable, with what it lists TIED to the program's text (the seventh form; the later family's looks); each row that meets fmt, with fmt's text TOLD by the authors' own Lean function (tested against real Go, not proved from fmt's source: count such statements apart). THE CARD IS WHAT COUNTS. Prove the row's statement (the work); the ties are given (YtedphjbgimkmlaaDoorTie.lean); close each card by the builder's one call (the guide's Derived/Test/ToyasCard.lean, 'card_holds'). Laid BY PROGRAM, IN A SANDBOX (cutbox-door.mjs). By AI agents, Wed Nov 11 2026. No macro, syntax, notation, axiom, sorry.
-/
import Derived.Test.YtedphjbgimkmlaaDoorRows
import GoSem.ClaimSeven
namespace Go.Proofs.YtedphjbgimkmlaaDoor
namespace Rows

/-- THE TIED CARD OF 'cinnabarlaw16.InstsChecks'. -/
def instsChecksCard : Claim7 := { stood := { row := instsChecksRow, standIns := [], harness := (true, "eb9fa3c77de07a574a1a208e75406ef7f23a0e8c067eefbdf022858dabac438d"), looks := false }, kinds := [], alts := [], laidByText := true, laidKinds := [.data, .data, .data, .data, .pinned, .pinned, .pinned, .pinned, .pinned, .pinned], laidTests := true, laidLooks := .later }
def InstsChecksCardSaid : Prop := Claim7.holds Tryd.pinned (.plain (OpenSpec.ofChange instsChecksSpec)) instsChecksCard

/-- THE SECOND FORM's CARD OF 'cinnabarlaw16.InstsChecks'. -/
def instsChecksUptoCard : Claim7 := { stood := { row := instsChecksUptoRow, standIns := [], harness := (true, "eb9fa3c77de07a574a1a208e75406ef7f23a0e8c067eefbdf022858dabac438d"), looks := false }, kinds := [], alts := [], laidByText := true, laidKinds := [.data, .data, .data, .data, .pinned, .pinned, .pinned, .pinned, .pinned, .pinned], laidTests := true, laidLooks := .later }
def InstsChecksUptoCardSaid : Prop := Claim7.holds Tryd.pinned (.plain (OpenSpec.upto instsChecksSpec)) instsChecksUptoCard
end Rows
end Go.Proofs.YtedphjbgimkmlaaDoor
