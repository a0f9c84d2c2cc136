/-
  DERIVED. GIVEN WITH THE SEED: THE CARDS: each row of YtcboanpdemlanaaDoorRows.lean that lists a variable, with what it lists TIED to the program's text (the seventh form; the later family's looks); each row that meets fmt, with fmt's text TOLD by the authors' own Lean function (tested against real Go, not proved from fmt's source: count such statements apart). THE CARD IS WHAT COUNTS. Prove the row's statement (the work); the ties are given (YtcboanpdemlanaaDoorTie.lean); close each card by the builder's one call (the guide's Derived/Test/ToyasCard.lean, 'card_holds'). Laid BY PROGRAM, IN A SANDBOX (cutbox-door.mjs). By AI agents, Wed Nov 11 2026. No macro, syntax, notation, axiom, sorry.
-/
import Derived.Test.YtcboanpdemlanaaDoorRows
import GoSem.ClaimSeven
namespace Go.Proofs.YtcboanpdemlanaaDoor
namespace Rows

/-- THE TIED CARD OF 'cinnabarlaw16.InstsStricts'. -/
def instsStrictsCard : Claim7 := { stood := { row := instsStrictsRow, standIns := [], harness := (true, "5c8cef2d8b5bf404027945b1ae6e0eed4b7d88c51067c036de63efaa1867d6f7"), looks := false }, kinds := [], alts := [], laidByText := true, laidKinds := [.data, .data, .data, .data, .pinned, .pinned, .pinned, .pinned, .pinned, .pinned], laidTests := true, laidLooks := .later }
def InstsStrictsCardSaid : Prop := Claim7.holds Tryd.pinned (.plain (OpenSpec.ofChange instsStrictsSpec)) instsStrictsCard

/-- THE TIED CARD OF 'cinnabarlaw16.InstsChecks'. -/
def instsChecksCard : Claim7 := { stood := { row := instsChecksRow, standIns := [], harness := (true, "5c8cef2d8b5bf404027945b1ae6e0eed4b7d88c51067c036de63efaa1867d6f7"), looks := false }, kinds := [], alts := [], laidByText := true, laidKinds := [.data, .data, .data, .data, .pinned, .pinned, .pinned, .pinned, .pinned, .pinned], laidTests := true, laidLooks := .later }
def InstsChecksCardSaid : Prop := Claim7.holds Tryd.pinned (.plain (OpenSpec.ofChange instsChecksSpec)) instsChecksCard

/-- THE SECOND FORM's CARD OF 'cinnabarlaw16.InstsStricts'. -/
def instsStrictsUptoCard : Claim7 := { stood := { row := instsStrictsUptoRow, standIns := [], harness := (true, "5c8cef2d8b5bf404027945b1ae6e0eed4b7d88c51067c036de63efaa1867d6f7"), looks := false }, kinds := [], alts := [], laidByText := true, laidKinds := [.data, .data, .data, .data, .pinned, .pinned, .pinned, .pinned, .pinned, .pinned], laidTests := true, laidLooks := .later }
def InstsStrictsUptoCardSaid : Prop := Claim7.holds Tryd.pinned (.plain (OpenSpec.upto instsStrictsSpec)) instsStrictsUptoCard

/-- THE SECOND FORM's CARD OF 'cinnabarlaw16.InstsChecks'. -/
def instsChecksUptoCard : Claim7 := { stood := { row := instsChecksUptoRow, standIns := [], harness := (true, "5c8cef2d8b5bf404027945b1ae6e0eed4b7d88c51067c036de63efaa1867d6f7"), looks := false }, kinds := [], alts := [], laidByText := true, laidKinds := [.data, .data, .data, .data, .pinned, .pinned, .pinned, .pinned, .pinned, .pinned], laidTests := true, laidLooks := .later }
def InstsChecksUptoCardSaid : Prop := Claim7.holds Tryd.pinned (.plain (OpenSpec.upto instsChecksSpec)) instsChecksUptoCard
end Rows
end Go.Proofs.YtcboanpdemlanaaDoor
