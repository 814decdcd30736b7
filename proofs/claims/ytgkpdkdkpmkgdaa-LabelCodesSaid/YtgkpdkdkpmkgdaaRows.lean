/-
  No cell of these rows narrows 'for every input' (looked for: loops, veiled, ifaces, maps, wideKeys, modest, calm, conditions, laid).
  DERIVED. THE GIVEN ROWS OF THIS SEAT. 6 by the template 'for every input the law returns true; each argument reads behind the call as it read before'; 0 by the template 'total and deterministic' (their statements: YtgkpdkdkpmkgdaaTotals.lean).
  GIVEN WITH THE SEED: the statements are not yours to turn. If you find one false, say at which input.
  Laid BY PROGRAM, IN A SANDBOX (cutbox-rows.mjs): the forced cells as the released guide's own fill.sh prints them over the translation bde7bf93c5955a0c… (all of the seat's roots in one cut). By AI agents, Wed Nov 11 2026. No macro, syntax, notation, axiom, sorry.
-/
import Derived.Test.YtgkpdkdkpmkgdaaChecked
import GoSem.Claim
import GoSem.ClaimJoined
import GoSem.ClaimMapViews
import Derived.JoinedTies
import Derived.KernelRfl
namespace Go.Proofs.Ytgkpdkdkpmkgdaa
/- THE CELL 'sum', in the pinned program and in every row, IS THE sha256 OF THE DUMP (.gsa) THAT YtgkpdkdkpmkgdaaProg.lean LOADS. Nothing in Lean hashes anything: it is a label: what it is worth is what the hold of that sum in a sandbox is worth. -/
noncomputable def Try.pinned : Pinned := { name := "ytgkpdkdkpmkgdaa", sum := "bde7bf93c5955a0c425f26b7aff292d2dac14276ea702e33a96a4280d726dba3", checked := Try.checked }
namespace Rows
def none {H : Type} : Left H := { results := [], args := [] }

/-- 'lazaretlaw3.LabelBounds': WHATEVER THE INPUT: true; the input reads as it did. -/
def labelBoundsSpec : ChangeSpec := { name := "labelBounds", fn := fun _ => fun
  | [d1, d2, d3, d4] => { results := [.lit (.bool true)], args := [d1, d2, d3, d4] }
  | _ => none }
def labelBoundsRow : OpenClaim := { program := "ytgkpdkdkpmkgdaa", sum := "bde7bf93c5955a0c425f26b7aff292d2dac14276ea702e33a96a4280d726dba3", func := "lazaret/lazaretlaw3.LabelBounds", spec := "labelBounds", unfollowed := true, recurses := true, apart := false }
def LabelBoundsSaid : Prop := labelBoundsRow.holds Try.pinned (OpenSpec.ofChange labelBoundsSpec)

/-- ITS FALSE NEIGHBOUR: 'it returns false'. Refute it at one input. -/
def labelBoundsWrong : ChangeSpec := { name := "labelBounds", fn := fun _ => fun
  | [d1, d2, d3, d4] => { results := [.lit (.bool false)], args := [d1, d2, d3, d4] }
  | _ => none }
def LabelBoundsWrongFalsely : Prop := labelBoundsRow.holds Try.pinned (OpenSpec.ofChange labelBoundsWrong)

/-- 'lazaretlaw3.LabelSets': WHATEVER THE INPUT: true; the input reads as it did. -/
def labelSetsSpec : ChangeSpec := { name := "labelSets", fn := fun _ => fun
  | [d1, d2] => { results := [.lit (.bool true)], args := [d1, d2] }
  | _ => none }
def labelSetsRow : OpenClaim := { program := "ytgkpdkdkpmkgdaa", sum := "bde7bf93c5955a0c425f26b7aff292d2dac14276ea702e33a96a4280d726dba3", func := "lazaret/lazaretlaw3.LabelSets", spec := "labelSets", unfollowed := true, recurses := true, apart := false }
def LabelSetsSaid : Prop := labelSetsRow.holds Try.pinned (OpenSpec.ofChange labelSetsSpec)

/-- ITS FALSE NEIGHBOUR: 'it returns false'. Refute it at one input. -/
def labelSetsWrong : ChangeSpec := { name := "labelSets", fn := fun _ => fun
  | [d1, d2] => { results := [.lit (.bool false)], args := [d1, d2] }
  | _ => none }
def LabelSetsWrongFalsely : Prop := labelSetsRow.holds Try.pinned (OpenSpec.ofChange labelSetsWrong)

/-- 'lazaretlaw3.LabelOrder': WHATEVER THE INPUT: true; the input reads as it did. -/
def labelOrderSpec : ChangeSpec := { name := "labelOrder", fn := fun _ => fun
  | [d1, d2, d3] => { results := [.lit (.bool true)], args := [d1, d2, d3] }
  | _ => none }
def labelOrderRow : OpenClaim := { program := "ytgkpdkdkpmkgdaa", sum := "bde7bf93c5955a0c425f26b7aff292d2dac14276ea702e33a96a4280d726dba3", func := "lazaret/lazaretlaw3.LabelOrder", spec := "labelOrder", unfollowed := true, recurses := true, apart := false }
def LabelOrderSaid : Prop := labelOrderRow.holds Try.pinned (OpenSpec.ofChange labelOrderSpec)

/-- ITS FALSE NEIGHBOUR: 'it returns false'. Refute it at one input. -/
def labelOrderWrong : ChangeSpec := { name := "labelOrder", fn := fun _ => fun
  | [d1, d2, d3] => { results := [.lit (.bool false)], args := [d1, d2, d3] }
  | _ => none }
def LabelOrderWrongFalsely : Prop := labelOrderRow.holds Try.pinned (OpenSpec.ofChange labelOrderWrong)

/-- 'lazaretlaw3.LabelBack': WHATEVER THE INPUT: true; the input reads as it did. -/
def labelBackSpec : ChangeSpec := { name := "labelBack", fn := fun _ => fun
  | [d1, d2, d3, d4] => { results := [.lit (.bool true)], args := [d1, d2, d3, d4] }
  | _ => none }
def labelBackRow : OpenClaim := { program := "ytgkpdkdkpmkgdaa", sum := "bde7bf93c5955a0c425f26b7aff292d2dac14276ea702e33a96a4280d726dba3", func := "lazaret/lazaretlaw3.LabelBack", spec := "labelBack", unfollowed := true, recurses := true, apart := false }
def LabelBackSaid : Prop := labelBackRow.holds Try.pinned (OpenSpec.ofChange labelBackSpec)

/-- ITS FALSE NEIGHBOUR: 'it returns false'. Refute it at one input. -/
def labelBackWrong : ChangeSpec := { name := "labelBack", fn := fun _ => fun
  | [d1, d2, d3, d4] => { results := [.lit (.bool false)], args := [d1, d2, d3, d4] }
  | _ => none }
def LabelBackWrongFalsely : Prop := labelBackRow.holds Try.pinned (OpenSpec.ofChange labelBackWrong)

/-- 'lazaretlaw3.LabelAsks': WHATEVER THE INPUT: true; the input reads as it did. -/
def labelAsksSpec : ChangeSpec := { name := "labelAsks", fn := fun _ => fun
  | [d1, d2, d3, d4, d5] => { results := [.lit (.bool true)], args := [d1, d2, d3, d4, d5] }
  | _ => none }
def labelAsksRow : OpenClaim := { program := "ytgkpdkdkpmkgdaa", sum := "bde7bf93c5955a0c425f26b7aff292d2dac14276ea702e33a96a4280d726dba3", func := "lazaret/lazaretlaw3.LabelAsks", spec := "labelAsks", unfollowed := true, recurses := true, apart := false }
def LabelAsksSaid : Prop := labelAsksRow.holds Try.pinned (OpenSpec.ofChange labelAsksSpec)

/-- ITS FALSE NEIGHBOUR: 'it returns false'. Refute it at one input. -/
def labelAsksWrong : ChangeSpec := { name := "labelAsks", fn := fun _ => fun
  | [d1, d2, d3, d4, d5] => { results := [.lit (.bool false)], args := [d1, d2, d3, d4, d5] }
  | _ => none }
def LabelAsksWrongFalsely : Prop := labelAsksRow.holds Try.pinned (OpenSpec.ofChange labelAsksWrong)

/-- 'lazaretlaw3.LabelCodes': WHATEVER THE INPUT: true; the input reads as it did. -/
def labelCodesSpec : ChangeSpec := { name := "labelCodes", fn := fun _ => fun
  | [d1, d2] => { results := [.lit (.bool true)], args := [d1, d2] }
  | _ => none }
def labelCodesRow : OpenClaim := { program := "ytgkpdkdkpmkgdaa", sum := "bde7bf93c5955a0c425f26b7aff292d2dac14276ea702e33a96a4280d726dba3", func := "lazaret/lazaretlaw3.LabelCodes", spec := "labelCodes", unfollowed := true, recurses := true, apart := false }
def LabelCodesSaid : Prop := labelCodesRow.holds Try.pinned (OpenSpec.ofChange labelCodesSpec)

/-- ITS FALSE NEIGHBOUR: 'it returns false'. Refute it at one input. -/
def labelCodesWrong : ChangeSpec := { name := "labelCodes", fn := fun _ => fun
  | [d1, d2] => { results := [.lit (.bool false)], args := [d1, d2] }
  | _ => none }
def LabelCodesWrongFalsely : Prop := labelCodesRow.holds Try.pinned (OpenSpec.ofChange labelCodesWrong)

/- THE SECOND FORM. 'bulk': how many values and letters a reading holds, each counted each time it is reached (what is shared counts as often as it is met; a slice's spare places count too). A statement '..UptoSaid' is the law's where the arguments, and the package variables that the reading takes, are together of bulk at most 1048576: NARROWER than '..Said'. Prove '..Said' where nothing that the law and all that it calls make is longer than what came in: it says more and counts as full. Else prove '..UptoSaid'. A law counts once. -/
mutual
def uptoBulk {H : Type} : DataW H → Nat
  | .lit (.string bytes) => bytes.length + 1
  | .lit _ => 1
  | .nil => 1
  | .ptr d => uptoBulk d + 1
  | .slice elems spare => uptoBulkAll elems + uptoBulkAll spare + 1
  | .agg parts => uptoBulkAll parts + 1
  | .iface _ d => uptoBulk d + 1
  | .map entries => uptoBulkEntries entries + 1
  | .held _ => 1
def uptoBulkAll {H : Type} : List (DataW H) → Nat
  | [] => 0
  | d :: r => uptoBulk d + uptoBulkAll r
def uptoBulkEntries {H : Type} : List (Lit × DataW H) → Nat
  | [] => 0
  | x :: r => uptoBulkEntry x + uptoBulkEntries r
def uptoBulkEntry {H : Type} : Lit × DataW H → Nat
  | (.string bytes, d) => bytes.length + uptoBulk d + 1
  | (_, d) => uptoBulk d + 1
 end
def uptoSmall : (H : Type) → List (DataW H) → Bool := fun _ ds => decide (uptoBulkAll ds ≤ 1048576)
def OpenSpec.upto (s : _root_.Go.ChangeSpec) : _root_.Go.OpenSpec := { _root_.Go.OpenSpec.ofChange s with cond := some uptoSmall }

/-- 'lazaretlaw3.LabelBounds', WHERE WHAT IT READS IS OF BULK AT MOST 1048576: true; the input reads as it did. -/
def labelBoundsUptoRow : OpenClaim := { program := "ytgkpdkdkpmkgdaa", sum := "bde7bf93c5955a0c425f26b7aff292d2dac14276ea702e33a96a4280d726dba3", func := "lazaret/lazaretlaw3.LabelBounds", spec := "labelBounds", unfollowed := true, recurses := true, apart := false, narrowed := true }
def LabelBoundsUptoSaid : Prop := labelBoundsUptoRow.holds Try.pinned (OpenSpec.upto labelBoundsSpec)

/-- 'lazaretlaw3.LabelSets', WHERE WHAT IT READS IS OF BULK AT MOST 1048576: true; the input reads as it did. -/
def labelSetsUptoRow : OpenClaim := { program := "ytgkpdkdkpmkgdaa", sum := "bde7bf93c5955a0c425f26b7aff292d2dac14276ea702e33a96a4280d726dba3", func := "lazaret/lazaretlaw3.LabelSets", spec := "labelSets", unfollowed := true, recurses := true, apart := false, narrowed := true }
def LabelSetsUptoSaid : Prop := labelSetsUptoRow.holds Try.pinned (OpenSpec.upto labelSetsSpec)

/-- 'lazaretlaw3.LabelOrder', WHERE WHAT IT READS IS OF BULK AT MOST 1048576: true; the input reads as it did. -/
def labelOrderUptoRow : OpenClaim := { program := "ytgkpdkdkpmkgdaa", sum := "bde7bf93c5955a0c425f26b7aff292d2dac14276ea702e33a96a4280d726dba3", func := "lazaret/lazaretlaw3.LabelOrder", spec := "labelOrder", unfollowed := true, recurses := true, apart := false, narrowed := true }
def LabelOrderUptoSaid : Prop := labelOrderUptoRow.holds Try.pinned (OpenSpec.upto labelOrderSpec)

/-- 'lazaretlaw3.LabelBack', WHERE WHAT IT READS IS OF BULK AT MOST 1048576: true; the input reads as it did. -/
def labelBackUptoRow : OpenClaim := { program := "ytgkpdkdkpmkgdaa", sum := "bde7bf93c5955a0c425f26b7aff292d2dac14276ea702e33a96a4280d726dba3", func := "lazaret/lazaretlaw3.LabelBack", spec := "labelBack", unfollowed := true, recurses := true, apart := false, narrowed := true }
def LabelBackUptoSaid : Prop := labelBackUptoRow.holds Try.pinned (OpenSpec.upto labelBackSpec)

/-- 'lazaretlaw3.LabelAsks', WHERE WHAT IT READS IS OF BULK AT MOST 1048576: true; the input reads as it did. -/
def labelAsksUptoRow : OpenClaim := { program := "ytgkpdkdkpmkgdaa", sum := "bde7bf93c5955a0c425f26b7aff292d2dac14276ea702e33a96a4280d726dba3", func := "lazaret/lazaretlaw3.LabelAsks", spec := "labelAsks", unfollowed := true, recurses := true, apart := false, narrowed := true }
def LabelAsksUptoSaid : Prop := labelAsksUptoRow.holds Try.pinned (OpenSpec.upto labelAsksSpec)

/-- 'lazaretlaw3.LabelCodes', WHERE WHAT IT READS IS OF BULK AT MOST 1048576: true; the input reads as it did. -/
def labelCodesUptoRow : OpenClaim := { program := "ytgkpdkdkpmkgdaa", sum := "bde7bf93c5955a0c425f26b7aff292d2dac14276ea702e33a96a4280d726dba3", func := "lazaret/lazaretlaw3.LabelCodes", spec := "labelCodes", unfollowed := true, recurses := true, apart := false, narrowed := true }
def LabelCodesUptoSaid : Prop := labelCodesUptoRow.holds Try.pinned (OpenSpec.upto labelCodesSpec)

end Rows
end Go.Proofs.Ytgkpdkdkpmkgdaa
