/-
  DERIVED. GIVEN WITH THE SEED: THE CARDS: each row of YtkgbldkjpohinaaDoorRows.lean that lists a variable, with what it lists TIED to the program's text (the seventh form; the later family's looks); each row that meets fmt, with fmt's text TOLD by the authors' own Lean function (tested against real Go, not proved from fmt's source: count such statements apart). THE CARD IS WHAT COUNTS. Prove the row's statement (the work); the ties are given (YtkgbldkjpohinaaDoorTie.lean); close each card by the builder's one call (the guide's Derived/Test/ToyasCard.lean, 'card_holds'). Laid BY PROGRAM, IN A SANDBOX (cutbox-door.mjs). By AI agents, Wed Nov 11 2026. No macro, syntax, notation, axiom, sorry.
-/
import Derived.Test.YtkgbldkjpohinaaDoorRows
import GoSem.ClaimSeven
namespace Go.Proofs.YtkgbldkjpohinaaDoor
namespace Rows

/-- THE TIED CARD OF 'lazaretlaw15.PassChanges'. -/
def passChangesCard : Claim7 := { stood := { row := passChangesRow, standIns := [], harness := (true, "47a2d5711cfb55f6debb34571e9459605805345cd494402a347033a4ba1a4d9c"), looks := true }, kinds := [], alts := [], laidByText := true, laidKinds := [.data, .data, .data], laidTests := true, laidLooks := .later }
def PassChangesCardSaid : Prop := Claim7.holds Tryd.pinned (.plain (OpenSpec.ofChange passChangesSpec)) passChangesCard

/-- THE TIED CARD OF 'lazaretlaw15.PassReads'. -/
def passReadsCard : Claim7 := { stood := { row := passReadsRow, standIns := [], harness := (true, "47a2d5711cfb55f6debb34571e9459605805345cd494402a347033a4ba1a4d9c"), looks := true }, kinds := [], alts := [], laidByText := true, laidKinds := [.data, .data, .data, .sentinel, .sentinel], laidTests := true, laidLooks := .later }
def PassReadsCardSaid : Prop := Claim7.holds Tryd.pinned (.plain (OpenSpec.ofChange passReadsSpec)) passReadsCard

/-- THE SECOND FORM's CARD OF 'lazaretlaw15.PassChanges'. -/
def passChangesUptoCard : Claim7 := { stood := { row := passChangesUptoRow, standIns := [], harness := (true, "47a2d5711cfb55f6debb34571e9459605805345cd494402a347033a4ba1a4d9c"), looks := true }, kinds := [], alts := [], laidByText := true, laidKinds := [.data, .data, .data], laidTests := true, laidLooks := .later }
def PassChangesUptoCardSaid : Prop := Claim7.holds Tryd.pinned (.plain (OpenSpec.upto passChangesSpec)) passChangesUptoCard

/-- THE SECOND FORM's CARD OF 'lazaretlaw15.PassReads'. -/
def passReadsUptoCard : Claim7 := { stood := { row := passReadsUptoRow, standIns := [], harness := (true, "47a2d5711cfb55f6debb34571e9459605805345cd494402a347033a4ba1a4d9c"), looks := true }, kinds := [], alts := [], laidByText := true, laidKinds := [.data, .data, .data, .sentinel, .sentinel], laidTests := true, laidLooks := .later }
def PassReadsUptoCardSaid : Prop := Claim7.holds Tryd.pinned (.plain (OpenSpec.upto passReadsSpec)) passReadsUptoCard
end Rows
end Go.Proofs.YtkgbldkjpohinaaDoor
