/-
  DERIVED. GIVEN WITH THE SEED: THE CARDS: each row of YtchlfjhbijmdiaaGreatDoorRows.lean that lists a variable, with what it lists TIED to the program's text (the seventh form; the later family's looks); each row that meets fmt, with fmt's text TOLD by the authors' own Lean function (tested against real Go, not proved from fmt's source: count such statements apart). THE CARD IS WHAT COUNTS. Prove the row's statement (the work); the ties are given (YtchlfjhbijmdiaaGreatDoorTie.lean); close each card by the builder's one call (the guide's Derived/Test/ToyasCard.lean, 'card_holds'). Laid BY PROGRAM, IN A SANDBOX (cutbox-door.mjs). By AI agents, Wed Nov 11 2026. No macro, syntax, notation, axiom, sorry.
-/
import Derived.Test.YtchlfjhbijmdiaaGreatDoorRows
import GoSem.ClaimSeven
namespace Go.Proofs.YtchlfjhbijmdiaaGreatDoor
namespace Rows

/-- THE TIED CARD OF 'cinnabarlaw16.InstsPuts'. -/
def instsPutsCard : Claim7 := { stood := { row := instsPutsRow, standIns := [], harness := (true, "5c68f06b1cf91e28b4ea768d7e97bd4175bb3564ffaa8df66b6c37764d9aa1bd"), looks := false }, kinds := [], alts := [], laidByText := true, laidKinds := [.data, .data, .data, .data, .pinned, .pinned, .pinned, .pinned, .pinned, .pinned], laidTests := true, laidLooks := .later }
def InstsPutsCardSaid : Prop := Claim7.holds Tryz.pinned (.plain (OpenSpec.ofChange instsPutsSpec)) instsPutsCard

/-- THE SECOND FORM's CARD OF 'cinnabarlaw16.InstsPuts'. -/
def instsPutsUptoCard : Claim7 := { stood := { row := instsPutsUptoRow, standIns := [], harness := (true, "5c68f06b1cf91e28b4ea768d7e97bd4175bb3564ffaa8df66b6c37764d9aa1bd"), looks := false }, kinds := [], alts := [], laidByText := true, laidKinds := [.data, .data, .data, .data, .pinned, .pinned, .pinned, .pinned, .pinned, .pinned], laidTests := true, laidLooks := .later }
def InstsPutsUptoCardSaid : Prop := Claim7.holds Tryz.pinned (.plain (OpenSpec.upto instsPutsSpec)) instsPutsUptoCard
end Rows
end Go.Proofs.YtchlfjhbijmdiaaGreatDoor
