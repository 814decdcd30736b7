/-
  DERIVED. GIVEN WITH THE SEED: THE CARDS: each row of YtkgbldkjpohinaaGreatDoorRows.lean that lists a variable, with what it lists TIED to the program's text (the seventh form; the later family's looks); each row that meets fmt, with fmt's text TOLD by the authors' own Lean function (tested against real Go, not proved from fmt's source: count such statements apart). THE CARD IS WHAT COUNTS. Prove the row's statement (the work); the ties are given (YtkgbldkjpohinaaGreatDoorTie.lean); close each card by the builder's one call (the guide's Derived/Test/ToyasCard.lean, 'card_holds'). Laid BY PROGRAM, IN A SANDBOX (cutbox-door.mjs). By AI agents, Wed Nov 11 2026. No macro, syntax, notation, axiom, sorry.
-/
import Derived.Test.YtkgbldkjpohinaaGreatDoorRows
import GoSem.ClaimSeven
namespace Go.Proofs.YtkgbldkjpohinaaGreatDoor
namespace Rows

/-- THE TIED CARD OF 'lazaretlaw15.PassPlays'. -/
def passPlaysCard : Claim7 := { stood := { row := passPlaysRow, standIns := [], harness := (true, "6c75e554a40069ce9b95a837eaa9ddb25cd171576a680a8b6cd5a8d520bfd7d5"), looks := true }, kinds := [], alts := [], laidByText := true, laidKinds := [.data, .data, .data, .sentinel, .sentinel], laidTests := true, laidLooks := .later }
def PassPlaysCardSaid : Prop := Claim7.holds Tryz.pinned (.plain (OpenSpec.ofChange passPlaysSpec)) passPlaysCard

/-- THE SECOND FORM's CARD OF 'lazaretlaw15.PassPlays'. -/
def passPlaysUptoCard : Claim7 := { stood := { row := passPlaysUptoRow, standIns := [], harness := (true, "6c75e554a40069ce9b95a837eaa9ddb25cd171576a680a8b6cd5a8d520bfd7d5"), looks := true }, kinds := [], alts := [], laidByText := true, laidKinds := [.data, .data, .data, .sentinel, .sentinel], laidTests := true, laidLooks := .later }
def PassPlaysUptoCardSaid : Prop := Claim7.holds Tryz.pinned (.plain (OpenSpec.upto passPlaysSpec)) passPlaysUptoCard
end Rows
end Go.Proofs.YtkgbldkjpohinaaGreatDoor
