/-
  No cell of these rows narrows 'for every input' (looked for: loops, veiled, ifaces, maps, wideKeys, modest, calm, conditions, laid).
  DERIVED. THE GIVEN ROWS OF THIS SEAT. 7 by the template 'for every input the law returns true; each argument reads behind the call as it read before'; 0 by the template 'total and deterministic' (their statements: YtdhdapnmjlklaaaTotals.lean).
  GIVEN WITH THE SEED: the statements are not yours to turn. If you find one false, say at which input.
  Laid BY PROGRAM, IN A SANDBOX (cutbox-rows.mjs): the forced cells as the released guide's own fill.sh prints them over the translation c3434d94e532cbec… (all of the seat's roots in one cut). By AI agents, Wed Nov 11 2026. No macro, syntax, notation, axiom, sorry.
-/
import Derived.Test.YtdhdapnmjlklaaaChecked
import GoSem.Claim
import GoSem.ClaimJoined
import GoSem.ClaimMapViews
import Derived.JoinedTies
import Derived.KernelRfl
namespace Go.Proofs.Ytdhdapnmjlklaaa
/- THE CELL 'sum', in the pinned program and in every row, IS THE sha256 OF THE DUMP (.gsa) THAT YtdhdapnmjlklaaaProg.lean LOADS. Nothing in Lean hashes anything: it is a label: what it is worth is what the hold of that sum in a sandbox is worth. -/
noncomputable def Try.pinned : Pinned := { name := "ytdhdapnmjlklaaa", sum := "c3434d94e532cbecd41b50259ec60c4a9bb499b40610e42eca796f5fd05f337f", checked := Try.checked }
namespace Rows
def none {H : Type} : Left H := { results := [], args := [] }

/-- 'lazaretlaw2.HashLengths': WHATEVER THE INPUT: true; the input reads as it did. -/
def hashLengthsSpec : ChangeSpec := { name := "hashLengths", fn := fun _ => fun
  | [d1, d2] => { results := [.lit (.bool true)], args := [d1, d2] }
  | _ => none }
def hashLengthsRow : OpenClaim := { program := "ytdhdapnmjlklaaa", sum := "c3434d94e532cbecd41b50259ec60c4a9bb499b40610e42eca796f5fd05f337f", func := "lazaret/lazaretlaw2.HashLengths", spec := "hashLengths", unfollowed := true, recurses := true, apart := false }
def HashLengthsSaid : Prop := hashLengthsRow.holds Try.pinned (OpenSpec.ofChange hashLengthsSpec)

/-- ITS FALSE NEIGHBOUR: 'it returns false'. Refute it at one input. -/
def hashLengthsWrong : ChangeSpec := { name := "hashLengths", fn := fun _ => fun
  | [d1, d2] => { results := [.lit (.bool false)], args := [d1, d2] }
  | _ => none }
def HashLengthsWrongFalsely : Prop := hashLengthsRow.holds Try.pinned (OpenSpec.ofChange hashLengthsWrong)

/-- 'lazaretlaw2.HashIs': WHATEVER THE INPUT: true; the input reads as it did. -/
def hashIsSpec : ChangeSpec := { name := "hashIs", fn := fun _ => fun
  | [d] => { results := [.lit (.bool true)], args := [d] }
  | _ => none }
def hashIsRow : OpenClaim := { program := "ytdhdapnmjlklaaa", sum := "c3434d94e532cbecd41b50259ec60c4a9bb499b40610e42eca796f5fd05f337f", func := "lazaret/lazaretlaw2.HashIs", spec := "hashIs", unfollowed := true, recurses := true, apart := false }
def HashIsSaid : Prop := hashIsRow.holds Try.pinned (OpenSpec.ofChange hashIsSpec)

/-- ITS FALSE NEIGHBOUR: 'it returns false'. Refute it at one input. -/
def hashIsWrong : ChangeSpec := { name := "hashIs", fn := fun _ => fun
  | [d] => { results := [.lit (.bool false)], args := [d] }
  | _ => none }
def HashIsWrongFalsely : Prop := hashIsRow.holds Try.pinned (OpenSpec.ofChange hashIsWrong)

/-- 'lazaretlaw2.HashStretch': WHATEVER THE INPUT: true; the input reads as it did. -/
def hashStretchSpec : ChangeSpec := { name := "hashStretch", fn := fun _ => fun
  | [d1, d2, d3] => { results := [.lit (.bool true)], args := [d1, d2, d3] }
  | _ => none }
def hashStretchRow : OpenClaim := { program := "ytdhdapnmjlklaaa", sum := "c3434d94e532cbecd41b50259ec60c4a9bb499b40610e42eca796f5fd05f337f", func := "lazaret/lazaretlaw2.HashStretch", spec := "hashStretch", unfollowed := true, recurses := true, apart := false }
def HashStretchSaid : Prop := hashStretchRow.holds Try.pinned (OpenSpec.ofChange hashStretchSpec)

/-- ITS FALSE NEIGHBOUR: 'it returns false'. Refute it at one input. -/
def hashStretchWrong : ChangeSpec := { name := "hashStretch", fn := fun _ => fun
  | [d1, d2, d3] => { results := [.lit (.bool false)], args := [d1, d2, d3] }
  | _ => none }
def HashStretchWrongFalsely : Prop := hashStretchRow.holds Try.pinned (OpenSpec.ofChange hashStretchWrong)

/-- 'lazaretlaw2.HashMany': WHATEVER THE INPUT: true; the input reads as it did. -/
def hashManySpec : ChangeSpec := { name := "hashMany", fn := fun _ => fun
  | [d1, d2, d3] => { results := [.lit (.bool true)], args := [d1, d2, d3] }
  | _ => none }
def hashManyRow : OpenClaim := { program := "ytdhdapnmjlklaaa", sum := "c3434d94e532cbecd41b50259ec60c4a9bb499b40610e42eca796f5fd05f337f", func := "lazaret/lazaretlaw2.HashMany", spec := "hashMany", unfollowed := true, recurses := true, apart := false }
def HashManySaid : Prop := hashManyRow.holds Try.pinned (OpenSpec.ofChange hashManySpec)

/-- ITS FALSE NEIGHBOUR: 'it returns false'. Refute it at one input. -/
def hashManyWrong : ChangeSpec := { name := "hashMany", fn := fun _ => fun
  | [d1, d2, d3] => { results := [.lit (.bool false)], args := [d1, d2, d3] }
  | _ => none }
def HashManyWrongFalsely : Prop := hashManyRow.holds Try.pinned (OpenSpec.ofChange hashManyWrong)

/-- 'lazaretlaw2.HashHex': WHATEVER THE INPUT: true; the input reads as it did. -/
def hashHexSpec : ChangeSpec := { name := "hashHex", fn := fun _ => fun
  | [d1, d2] => { results := [.lit (.bool true)], args := [d1, d2] }
  | _ => none }
def hashHexRow : OpenClaim := { program := "ytdhdapnmjlklaaa", sum := "c3434d94e532cbecd41b50259ec60c4a9bb499b40610e42eca796f5fd05f337f", func := "lazaret/lazaretlaw2.HashHex", spec := "hashHex", unfollowed := true, recurses := true, apart := false }
def HashHexSaid : Prop := hashHexRow.holds Try.pinned (OpenSpec.ofChange hashHexSpec)

/-- ITS FALSE NEIGHBOUR: 'it returns false'. Refute it at one input. -/
def hashHexWrong : ChangeSpec := { name := "hashHex", fn := fun _ => fun
  | [d1, d2] => { results := [.lit (.bool false)], args := [d1, d2] }
  | _ => none }
def HashHexWrongFalsely : Prop := hashHexRow.holds Try.pinned (OpenSpec.ofChange hashHexWrong)

/-- 'lazaretlaw15.PassMany': WHATEVER THE INPUT: true; the input reads as it did. -/
def passManySpec : ChangeSpec := { name := "passMany", fn := fun _ => fun
  | [d1, d2] => { results := [.lit (.bool true)], args := [d1, d2] }
  | _ => none }
def passManyRow : OpenClaim := { program := "ytdhdapnmjlklaaa", sum := "c3434d94e532cbecd41b50259ec60c4a9bb499b40610e42eca796f5fd05f337f", func := "lazaret/lazaretlaw15.PassMany", spec := "passMany", unfollowed := true, recurses := true, apart := false }
def PassManySaid : Prop := passManyRow.holds Try.pinned (OpenSpec.ofChange passManySpec)

/-- ITS FALSE NEIGHBOUR: 'it returns false'. Refute it at one input. -/
def passManyWrong : ChangeSpec := { name := "passMany", fn := fun _ => fun
  | [d1, d2] => { results := [.lit (.bool false)], args := [d1, d2] }
  | _ => none }
def PassManyWrongFalsely : Prop := passManyRow.holds Try.pinned (OpenSpec.ofChange passManyWrong)

/-- 'lazaretlaw15.PassLocks': WHATEVER THE INPUT: true; the input reads as it did. -/
def passLocksSpec : ChangeSpec := { name := "passLocks", fn := fun _ => fun
  | [d1, d2, d3, d4] => { results := [.lit (.bool true)], args := [d1, d2, d3, d4] }
  | _ => none }
def passLocksRow : OpenClaim := { program := "ytdhdapnmjlklaaa", sum := "c3434d94e532cbecd41b50259ec60c4a9bb499b40610e42eca796f5fd05f337f", func := "lazaret/lazaretlaw15.PassLocks", spec := "passLocks", unfollowed := true, recurses := true, apart := false }
def PassLocksSaid : Prop := passLocksRow.holds Try.pinned (OpenSpec.ofChange passLocksSpec)

/-- ITS FALSE NEIGHBOUR: 'it returns false'. Refute it at one input. -/
def passLocksWrong : ChangeSpec := { name := "passLocks", fn := fun _ => fun
  | [d1, d2, d3, d4] => { results := [.lit (.bool false)], args := [d1, d2, d3, d4] }
  | _ => none }
def PassLocksWrongFalsely : Prop := passLocksRow.holds Try.pinned (OpenSpec.ofChange passLocksWrong)

/- THE SECOND FORM. 'bulk': how many values and letters a reading holds, each counted each time it is reached (what is shared counts as often as it is met; a slice's spare places count too). A statement '..UptoSaid' is the law's where the arguments, and the package variables that the reading takes, are together of bulk at most 1048576: NARROWER than '..Said'. Prove '..Said' where nothing that the law and all that it calls make is longer than what came in: it says more and counts as full. Else prove '..UptoSaid'. A law counts once. -/
mutual
def uptoBulk {H : Type} : DataW H → Nat
  | .lit (.string bytes) => bytes.length + 1
  | .lit _ => 1
  | .nil => 1
  | .ptr d => uptoBulk d + 1
  | .slice elems spare => uptoBulkAll elems + uptoBulkAll spare + 1
  | .agg parts => uptoBulkAll parts + 1
  | .iface _ d => uptoBulk d + 1
  | .map entries => uptoBulkEntries entries + 1
  | .held _ => 1
def uptoBulkAll {H : Type} : List (DataW H) → Nat
  | [] => 0
  | d :: r => uptoBulk d + uptoBulkAll r
def uptoBulkEntries {H : Type} : List (Lit × DataW H) → Nat
  | [] => 0
  | x :: r => uptoBulkEntry x + uptoBulkEntries r
def uptoBulkEntry {H : Type} : Lit × DataW H → Nat
  | (.string bytes, d) => bytes.length + uptoBulk d + 1
  | (_, d) => uptoBulk d + 1
 end
def uptoSmall : (H : Type) → List (DataW H) → Bool := fun _ ds => decide (uptoBulkAll ds ≤ 1048576)
def OpenSpec.upto (s : _root_.Go.ChangeSpec) : _root_.Go.OpenSpec := { _root_.Go.OpenSpec.ofChange s with cond := some uptoSmall }

/-- 'lazaretlaw2.HashLengths', WHERE WHAT IT READS IS OF BULK AT MOST 1048576: true; the input reads as it did. -/
def hashLengthsUptoRow : OpenClaim := { program := "ytdhdapnmjlklaaa", sum := "c3434d94e532cbecd41b50259ec60c4a9bb499b40610e42eca796f5fd05f337f", func := "lazaret/lazaretlaw2.HashLengths", spec := "hashLengths", unfollowed := true, recurses := true, apart := false, narrowed := true }
def HashLengthsUptoSaid : Prop := hashLengthsUptoRow.holds Try.pinned (OpenSpec.upto hashLengthsSpec)

/-- 'lazaretlaw2.HashIs', WHERE WHAT IT READS IS OF BULK AT MOST 1048576: true; the input reads as it did. -/
def hashIsUptoRow : OpenClaim := { program := "ytdhdapnmjlklaaa", sum := "c3434d94e532cbecd41b50259ec60c4a9bb499b40610e42eca796f5fd05f337f", func := "lazaret/lazaretlaw2.HashIs", spec := "hashIs", unfollowed := true, recurses := true, apart := false, narrowed := true }
def HashIsUptoSaid : Prop := hashIsUptoRow.holds Try.pinned (OpenSpec.upto hashIsSpec)

/-- 'lazaretlaw2.HashStretch', WHERE WHAT IT READS IS OF BULK AT MOST 1048576: true; the input reads as it did. -/
def hashStretchUptoRow : OpenClaim := { program := "ytdhdapnmjlklaaa", sum := "c3434d94e532cbecd41b50259ec60c4a9bb499b40610e42eca796f5fd05f337f", func := "lazaret/lazaretlaw2.HashStretch", spec := "hashStretch", unfollowed := true, recurses := true, apart := false, narrowed := true }
def HashStretchUptoSaid : Prop := hashStretchUptoRow.holds Try.pinned (OpenSpec.upto hashStretchSpec)

/-- 'lazaretlaw2.HashMany', WHERE WHAT IT READS IS OF BULK AT MOST 1048576: true; the input reads as it did. -/
def hashManyUptoRow : OpenClaim := { program := "ytdhdapnmjlklaaa", sum := "c3434d94e532cbecd41b50259ec60c4a9bb499b40610e42eca796f5fd05f337f", func := "lazaret/lazaretlaw2.HashMany", spec := "hashMany", unfollowed := true, recurses := true, apart := false, narrowed := true }
def HashManyUptoSaid : Prop := hashManyUptoRow.holds Try.pinned (OpenSpec.upto hashManySpec)

/-- 'lazaretlaw2.HashHex', WHERE WHAT IT READS IS OF BULK AT MOST 1048576: true; the input reads as it did. -/
def hashHexUptoRow : OpenClaim := { program := "ytdhdapnmjlklaaa", sum := "c3434d94e532cbecd41b50259ec60c4a9bb499b40610e42eca796f5fd05f337f", func := "lazaret/lazaretlaw2.HashHex", spec := "hashHex", unfollowed := true, recurses := true, apart := false, narrowed := true }
def HashHexUptoSaid : Prop := hashHexUptoRow.holds Try.pinned (OpenSpec.upto hashHexSpec)

/-- 'lazaretlaw15.PassMany', WHERE WHAT IT READS IS OF BULK AT MOST 1048576: true; the input reads as it did. -/
def passManyUptoRow : OpenClaim := { program := "ytdhdapnmjlklaaa", sum := "c3434d94e532cbecd41b50259ec60c4a9bb499b40610e42eca796f5fd05f337f", func := "lazaret/lazaretlaw15.PassMany", spec := "passMany", unfollowed := true, recurses := true, apart := false, narrowed := true }
def PassManyUptoSaid : Prop := passManyUptoRow.holds Try.pinned (OpenSpec.upto passManySpec)

/-- 'lazaretlaw15.PassLocks', WHERE WHAT IT READS IS OF BULK AT MOST 1048576: true; the input reads as it did. -/
def passLocksUptoRow : OpenClaim := { program := "ytdhdapnmjlklaaa", sum := "c3434d94e532cbecd41b50259ec60c4a9bb499b40610e42eca796f5fd05f337f", func := "lazaret/lazaretlaw15.PassLocks", spec := "passLocks", unfollowed := true, recurses := true, apart := false, narrowed := true }
def PassLocksUptoSaid : Prop := passLocksUptoRow.holds Try.pinned (OpenSpec.upto passLocksSpec)

end Rows
end Go.Proofs.Ytdhdapnmjlklaaa
