/-
  DERIVED. GIVEN WITH THE SEED: THE CARDS: each row of YtejjnakhijgkaabGreatDoorRows.lean that lists a variable, with what it lists TIED to the program's text (the seventh form; the later family's looks); each row that meets fmt, with fmt's text TOLD by the authors' own Lean function (tested against real Go, not proved from fmt's source: count such statements apart). THE CARD IS WHAT COUNTS. Prove the row's statement (the work); the ties are given (YtejjnakhijgkaabGreatDoorTie.lean); close each card by the builder's one call (the guide's Derived/Test/ToyasCard.lean, 'card_holds'). Laid BY PROGRAM, IN A SANDBOX (cutbox-door.mjs). By AI agents, Wed Nov 11 2026. No macro, syntax, notation, axiom, sorry.
-/
import Derived.Test.YtejjnakhijgkaabGreatDoorRows
import GoSem.ClaimSeven
namespace Go.Proofs.YtejjnakhijgkaabGreatDoor
namespace Rows

/-- THE TIED CARD OF 'cinnabarlaw29.TablingNil'. -/
def tablingNilCard : Claim7 := { stood := { row := tablingNilRow, standIns := [], harness := (true, "937717bbeb424ec9aacf21d372a711d851e1fb41350d8478ffa7024e9b276eca"), looks := true }, kinds := [], alts := [], laidByText := true, laidKinds := [.data, .data, .data, .data, .pinned, .pinned, .pinned, .pinned, .pinned, .pinned], laidTests := true, laidLooks := .later }
def TablingNilCardSaid : Prop := Claim7.holds Tryz.pinned (.plain (OpenSpec.ofChange tablingNilSpec)) tablingNilCard

/-- THE TIED CARD OF 'cinnabarlaw29.TablingUnifies'. -/
def tablingUnifiesCard : Claim7 := { stood := { row := tablingUnifiesRow, standIns := [], harness := (true, "937717bbeb424ec9aacf21d372a711d851e1fb41350d8478ffa7024e9b276eca"), looks := true }, kinds := [], alts := [], laidByText := true, laidKinds := [.data, .data, .data, .data, .pinned, .pinned, .pinned, .pinned, .pinned, .pinned], laidTests := true, laidLooks := .later }
def TablingUnifiesCardSaid : Prop := Claim7.holds Tryz.pinned (.plain (OpenSpec.ofChange tablingUnifiesSpec)) tablingUnifiesCard

/-- THE SECOND FORM's CARD OF 'cinnabarlaw29.TablingNil'. -/
def tablingNilUptoCard : Claim7 := { stood := { row := tablingNilUptoRow, standIns := [], harness := (true, "937717bbeb424ec9aacf21d372a711d851e1fb41350d8478ffa7024e9b276eca"), looks := true }, kinds := [], alts := [], laidByText := true, laidKinds := [.data, .data, .data, .data, .pinned, .pinned, .pinned, .pinned, .pinned, .pinned], laidTests := true, laidLooks := .later }
def TablingNilUptoCardSaid : Prop := Claim7.holds Tryz.pinned (.plain (OpenSpec.upto tablingNilSpec)) tablingNilUptoCard

/-- THE SECOND FORM's CARD OF 'cinnabarlaw29.TablingUnifies'. -/
def tablingUnifiesUptoCard : Claim7 := { stood := { row := tablingUnifiesUptoRow, standIns := [], harness := (true, "937717bbeb424ec9aacf21d372a711d851e1fb41350d8478ffa7024e9b276eca"), looks := true }, kinds := [], alts := [], laidByText := true, laidKinds := [.data, .data, .data, .data, .pinned, .pinned, .pinned, .pinned, .pinned, .pinned], laidTests := true, laidLooks := .later }
def TablingUnifiesUptoCardSaid : Prop := Claim7.holds Tryz.pinned (.plain (OpenSpec.upto tablingUnifiesSpec)) tablingUnifiesUptoCard
end Rows
end Go.Proofs.YtejjnakhijgkaabGreatDoor
