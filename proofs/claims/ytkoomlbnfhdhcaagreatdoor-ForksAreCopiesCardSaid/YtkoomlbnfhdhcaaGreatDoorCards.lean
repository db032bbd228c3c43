/-
  DERIVED. GIVEN WITH THE SEED: THE CARDS: each row of YtkoomlbnfhdhcaaGreatDoorRows.lean that lists a variable, with what it lists TIED to the program's text (the seventh form; the later family's looks); each row that meets fmt, with fmt's text TOLD by the authors' own Lean function (tested against real Go, not proved from fmt's source: count such statements apart). THE CARD IS WHAT COUNTS. Prove the row's statement (the work); the ties are given (YtkoomlbnfhdhcaaGreatDoorTie.lean); close each card by the builder's one call (the guide's Derived/Test/ToyasCard.lean, 'card_holds'). Laid BY PROGRAM, IN A SANDBOX (cutbox-door.mjs). By AI agents, Wed Nov 11 2026. No macro, syntax, notation, axiom, sorry.
-/
import Derived.Test.YtkoomlbnfhdhcaaGreatDoorRows
import GoSem.ClaimSeven
namespace Go.Proofs.YtkoomlbnfhdhcaaGreatDoor
namespace Rows

/-- THE TIED CARD OF 'replevintop.ForksAreCopies'. -/
def forksAreCopiesCard : Claim7 := { stood := { row := forksAreCopiesRow, standIns := [], harness := (true, "150aa5a64bb218ac1b58409f9fcbc04386fd589ade7f2538dc6d52af596e3233"), looks := false }, kinds := [], alts := [], laidByText := true, laidKinds := [.data, .data, .data, .data, .data], laidTests := true, laidLooks := .later }
def ForksAreCopiesCardSaid : Prop := Claim7.holds Tryz.pinned (.plain (OpenSpec.ofChange forksAreCopiesSpec)) forksAreCopiesCard

/-- THE SECOND FORM's CARD OF 'replevintop.ForksAreCopies'. -/
def forksAreCopiesUptoCard : Claim7 := { stood := { row := forksAreCopiesUptoRow, standIns := [], harness := (true, "150aa5a64bb218ac1b58409f9fcbc04386fd589ade7f2538dc6d52af596e3233"), looks := false }, kinds := [], alts := [], laidByText := true, laidKinds := [.data, .data, .data, .data, .data], laidTests := true, laidLooks := .later }
def ForksAreCopiesUptoCardSaid : Prop := Claim7.holds Tryz.pinned (.plain (OpenSpec.upto forksAreCopiesSpec)) forksAreCopiesUptoCard
end Rows
end Go.Proofs.YtkoomlbnfhdhcaaGreatDoor
