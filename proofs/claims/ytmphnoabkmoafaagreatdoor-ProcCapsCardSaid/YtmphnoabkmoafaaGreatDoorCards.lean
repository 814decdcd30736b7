/-
  DERIVED. GIVEN WITH THE SEED: THE CARDS: each row of YtmphnoabkmoafaaGreatDoorRows.lean that lists a variable, with what it lists TIED to the program's text (the seventh form; the later family's looks); each row that meets fmt, with fmt's text TOLD by the authors' own Lean function (tested against real Go, not proved from fmt's source: count such statements apart). THE CARD IS WHAT COUNTS. Prove the row's statement (the work); the ties are given (YtmphnoabkmoafaaGreatDoorTie.lean); close each card by the builder's one call (the guide's Derived/Test/ToyasCard.lean, 'card_holds'). Laid BY PROGRAM, IN A SANDBOX (cutbox-door.mjs). By AI agents, Wed Nov 11 2026. No macro, syntax, notation, axiom, sorry.
-/
import Derived.Test.YtmphnoabkmoafaaGreatDoorRows
import GoSem.ClaimSeven
namespace Go.Proofs.YtmphnoabkmoafaaGreatDoor
namespace Rows

/-- THE TIED CARD OF 'lazaretlaw12.ProcBlind'. -/
def procBlindCard : Claim7 := { stood := { row := procBlindRow, standIns := [], harness := (true, "541739128c1420a3b42903df629c48beaffb4449e65323e40abca590a42ac22f"), looks := false }, kinds := [], alts := [], laidByText := true, laidKinds := [.data, .data, .data], laidTests := true, laidLooks := .later }
def ProcBlindCardSaid : Prop := Claim7.holds Tryz.pinned (.plain (OpenSpec.ofChange procBlindSpec)) procBlindCard

/-- THE TIED CARD OF 'lazaretlaw12.ProcPlays'. -/
def procPlaysCard : Claim7 := { stood := { row := procPlaysRow, standIns := [], harness := (true, "541739128c1420a3b42903df629c48beaffb4449e65323e40abca590a42ac22f"), looks := false }, kinds := [], alts := [], laidByText := true, laidKinds := [.data, .data, .data], laidTests := true, laidLooks := .later }
def ProcPlaysCardSaid : Prop := Claim7.holds Tryz.pinned (.plain (OpenSpec.ofChange procPlaysSpec)) procPlaysCard

/-- THE TIED CARD OF 'lazaretlaw12.ProcCaps'. -/
def procCapsCard : Claim7 := { stood := { row := procCapsRow, standIns := [], harness := (true, "541739128c1420a3b42903df629c48beaffb4449e65323e40abca590a42ac22f"), looks := false }, kinds := [], alts := [], laidByText := true, laidKinds := [.data, .data, .data], laidTests := true, laidLooks := .later }
def ProcCapsCardSaid : Prop := Claim7.holds Tryz.pinned (.plain (OpenSpec.ofChange procCapsSpec)) procCapsCard

/-- THE SECOND FORM's CARD OF 'lazaretlaw12.ProcBlind'. -/
def procBlindUptoCard : Claim7 := { stood := { row := procBlindUptoRow, standIns := [], harness := (true, "541739128c1420a3b42903df629c48beaffb4449e65323e40abca590a42ac22f"), looks := false }, kinds := [], alts := [], laidByText := true, laidKinds := [.data, .data, .data], laidTests := true, laidLooks := .later }
def ProcBlindUptoCardSaid : Prop := Claim7.holds Tryz.pinned (.plain (OpenSpec.upto procBlindSpec)) procBlindUptoCard

/-- THE SECOND FORM's CARD OF 'lazaretlaw12.ProcPlays'. -/
def procPlaysUptoCard : Claim7 := { stood := { row := procPlaysUptoRow, standIns := [], harness := (true, "541739128c1420a3b42903df629c48beaffb4449e65323e40abca590a42ac22f"), looks := false }, kinds := [], alts := [], laidByText := true, laidKinds := [.data, .data, .data], laidTests := true, laidLooks := .later }
def ProcPlaysUptoCardSaid : Prop := Claim7.holds Tryz.pinned (.plain (OpenSpec.upto procPlaysSpec)) procPlaysUptoCard

/-- THE SECOND FORM's CARD OF 'lazaretlaw12.ProcCaps'. -/
def procCapsUptoCard : Claim7 := { stood := { row := procCapsUptoRow, standIns := [], harness := (true, "541739128c1420a3b42903df629c48beaffb4449e65323e40abca590a42ac22f"), looks := false }, kinds := [], alts := [], laidByText := true, laidKinds := [.data, .data, .data], laidTests := true, laidLooks := .later }
def ProcCapsUptoCardSaid : Prop := Claim7.holds Tryz.pinned (.plain (OpenSpec.upto procCapsSpec)) procCapsUptoCard
end Rows
end Go.Proofs.YtmphnoabkmoafaaGreatDoor
