/-
  DERIVED. GIVEN WITH THE SEED: THE CARDS: each row of YtmphnoabkmoafaaDoorRows.lean that lists a variable, with what it lists TIED to the program's text (the seventh form; the later family's looks); each row that meets fmt, with fmt's text TOLD by the authors' own Lean function (tested against real Go, not proved from fmt's source: count such statements apart). THE CARD IS WHAT COUNTS. Prove the row's statement (the work); the ties are given (YtmphnoabkmoafaaDoorTie.lean); close each card by the builder's one call (the guide's Derived/Test/ToyasCard.lean, 'card_holds'). Laid BY PROGRAM, IN A SANDBOX (cutbox-door.mjs). By AI agents, Wed Nov 11 2026. No macro, syntax, notation, axiom, sorry.
-/
import Derived.Test.YtmphnoabkmoafaaDoorRows
import GoSem.ClaimSeven
namespace Go.Proofs.YtmphnoabkmoafaaDoor
namespace Rows

/-- THE TIED CARD OF 'lazaretlaw12.ProcNames'. -/
def procNamesCard : Claim7 := { stood := { row := procNamesRow, standIns := [], harness := (true, "4e6eefd65bd0e5dd47ac5a8d59095f3d2c4ea9244d629f8599999574683d4824"), looks := false }, kinds := [], alts := [], laidByText := true, laidKinds := [.data, .data, .data], laidTests := true, laidLooks := .later }
def ProcNamesCardSaid : Prop := Claim7.holds Tryd.pinned (.plain (OpenSpec.ofChange procNamesSpec)) procNamesCard

/-- THE TIED CARD OF 'lazaretlaw12.ProcOrphans'. -/
def procOrphansCard : Claim7 := { stood := { row := procOrphansRow, standIns := [], harness := (true, "4e6eefd65bd0e5dd47ac5a8d59095f3d2c4ea9244d629f8599999574683d4824"), looks := false }, kinds := [], alts := [], laidByText := true, laidKinds := [.data, .data, .data], laidTests := true, laidLooks := .later }
def ProcOrphansCardSaid : Prop := Claim7.holds Tryd.pinned (.plain (OpenSpec.ofChange procOrphansSpec)) procOrphansCard

/-- THE TIED CARD OF 'lazaretlaw12.ProcShares'. -/
def procSharesCard : Claim7 := { stood := { row := procSharesRow, standIns := [], harness := (true, "4e6eefd65bd0e5dd47ac5a8d59095f3d2c4ea9244d629f8599999574683d4824"), looks := false }, kinds := [], alts := [], laidByText := true, laidKinds := [.data, .data, .data], laidTests := true, laidLooks := .later }
def ProcSharesCardSaid : Prop := Claim7.holds Tryd.pinned (.plain (OpenSpec.ofChange procSharesSpec)) procSharesCard

/-- THE TIED CARD OF 'lazaretlaw12.ProcSignals'. -/
def procSignalsCard : Claim7 := { stood := { row := procSignalsRow, standIns := [], harness := (true, "4e6eefd65bd0e5dd47ac5a8d59095f3d2c4ea9244d629f8599999574683d4824"), looks := false }, kinds := [], alts := [], laidByText := true, laidKinds := [.data, .data, .data], laidTests := true, laidLooks := .later }
def ProcSignalsCardSaid : Prop := Claim7.holds Tryd.pinned (.plain (OpenSpec.ofChange procSignalsSpec)) procSignalsCard

/-- THE TIED CARD OF 'lazaretlaw12.ProcRises'. -/
def procRisesCard : Claim7 := { stood := { row := procRisesRow, standIns := [], harness := (true, "4e6eefd65bd0e5dd47ac5a8d59095f3d2c4ea9244d629f8599999574683d4824"), looks := false }, kinds := [], alts := [], laidByText := true, laidKinds := [.data, .data, .data], laidTests := true, laidLooks := .later }
def ProcRisesCardSaid : Prop := Claim7.holds Tryd.pinned (.plain (OpenSpec.ofChange procRisesSpec)) procRisesCard

/-- THE TIED CARD OF 'lazaretlaw12.ProcTags'. -/
def procTagsCard : Claim7 := { stood := { row := procTagsRow, standIns := [], harness := (true, "4e6eefd65bd0e5dd47ac5a8d59095f3d2c4ea9244d629f8599999574683d4824"), looks := false }, kinds := [], alts := [], laidByText := true, laidKinds := [.data, .data, .data], laidTests := true, laidLooks := .later }
def ProcTagsCardSaid : Prop := Claim7.holds Tryd.pinned (.plain (OpenSpec.ofChange procTagsSpec)) procTagsCard

/-- THE TIED CARD OF 'lazaretlaw12.ProcSees'. -/
def procSeesCard : Claim7 := { stood := { row := procSeesRow, standIns := [], harness := (true, "4e6eefd65bd0e5dd47ac5a8d59095f3d2c4ea9244d629f8599999574683d4824"), looks := false }, kinds := [], alts := [], laidByText := true, laidKinds := [.data, .data, .data], laidTests := true, laidLooks := .later }
def ProcSeesCardSaid : Prop := Claim7.holds Tryd.pinned (.plain (OpenSpec.ofChange procSeesSpec)) procSeesCard

/-- THE SECOND FORM's CARD OF 'lazaretlaw12.ProcNames'. -/
def procNamesUptoCard : Claim7 := { stood := { row := procNamesUptoRow, standIns := [], harness := (true, "4e6eefd65bd0e5dd47ac5a8d59095f3d2c4ea9244d629f8599999574683d4824"), looks := false }, kinds := [], alts := [], laidByText := true, laidKinds := [.data, .data, .data], laidTests := true, laidLooks := .later }
def ProcNamesUptoCardSaid : Prop := Claim7.holds Tryd.pinned (.plain (OpenSpec.upto procNamesSpec)) procNamesUptoCard

/-- THE SECOND FORM's CARD OF 'lazaretlaw12.ProcOrphans'. -/
def procOrphansUptoCard : Claim7 := { stood := { row := procOrphansUptoRow, standIns := [], harness := (true, "4e6eefd65bd0e5dd47ac5a8d59095f3d2c4ea9244d629f8599999574683d4824"), looks := false }, kinds := [], alts := [], laidByText := true, laidKinds := [.data, .data, .data], laidTests := true, laidLooks := .later }
def ProcOrphansUptoCardSaid : Prop := Claim7.holds Tryd.pinned (.plain (OpenSpec.upto procOrphansSpec)) procOrphansUptoCard

/-- THE SECOND FORM's CARD OF 'lazaretlaw12.ProcShares'. -/
def procSharesUptoCard : Claim7 := { stood := { row := procSharesUptoRow, standIns := [], harness := (true, "4e6eefd65bd0e5dd47ac5a8d59095f3d2c4ea9244d629f8599999574683d4824"), looks := false }, kinds := [], alts := [], laidByText := true, laidKinds := [.data, .data, .data], laidTests := true, laidLooks := .later }
def ProcSharesUptoCardSaid : Prop := Claim7.holds Tryd.pinned (.plain (OpenSpec.upto procSharesSpec)) procSharesUptoCard

/-- THE SECOND FORM's CARD OF 'lazaretlaw12.ProcSignals'. -/
def procSignalsUptoCard : Claim7 := { stood := { row := procSignalsUptoRow, standIns := [], harness := (true, "4e6eefd65bd0e5dd47ac5a8d59095f3d2c4ea9244d629f8599999574683d4824"), looks := false }, kinds := [], alts := [], laidByText := true, laidKinds := [.data, .data, .data], laidTests := true, laidLooks := .later }
def ProcSignalsUptoCardSaid : Prop := Claim7.holds Tryd.pinned (.plain (OpenSpec.upto procSignalsSpec)) procSignalsUptoCard

/-- THE SECOND FORM's CARD OF 'lazaretlaw12.ProcRises'. -/
def procRisesUptoCard : Claim7 := { stood := { row := procRisesUptoRow, standIns := [], harness := (true, "4e6eefd65bd0e5dd47ac5a8d59095f3d2c4ea9244d629f8599999574683d4824"), looks := false }, kinds := [], alts := [], laidByText := true, laidKinds := [.data, .data, .data], laidTests := true, laidLooks := .later }
def ProcRisesUptoCardSaid : Prop := Claim7.holds Tryd.pinned (.plain (OpenSpec.upto procRisesSpec)) procRisesUptoCard

/-- THE SECOND FORM's CARD OF 'lazaretlaw12.ProcTags'. -/
def procTagsUptoCard : Claim7 := { stood := { row := procTagsUptoRow, standIns := [], harness := (true, "4e6eefd65bd0e5dd47ac5a8d59095f3d2c4ea9244d629f8599999574683d4824"), looks := false }, kinds := [], alts := [], laidByText := true, laidKinds := [.data, .data, .data], laidTests := true, laidLooks := .later }
def ProcTagsUptoCardSaid : Prop := Claim7.holds Tryd.pinned (.plain (OpenSpec.upto procTagsSpec)) procTagsUptoCard

/-- THE SECOND FORM's CARD OF 'lazaretlaw12.ProcSees'. -/
def procSeesUptoCard : Claim7 := { stood := { row := procSeesUptoRow, standIns := [], harness := (true, "4e6eefd65bd0e5dd47ac5a8d59095f3d2c4ea9244d629f8599999574683d4824"), looks := false }, kinds := [], alts := [], laidByText := true, laidKinds := [.data, .data, .data], laidTests := true, laidLooks := .later }
def ProcSeesUptoCardSaid : Prop := Claim7.holds Tryd.pinned (.plain (OpenSpec.upto procSeesSpec)) procSeesUptoCard
end Rows
end Go.Proofs.YtmphnoabkmoafaaDoor
