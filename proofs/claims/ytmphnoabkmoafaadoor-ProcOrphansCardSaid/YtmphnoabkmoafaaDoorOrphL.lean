/- ProcOrphans as a game that the kernel plays: every way that its bits may go. -/
import Derived.Test.YtmphnoabkmoafaaDoorGame
namespace Go.Proofs.YtmphnoabkmoafaaDoor
open Go.RowKit Go.Maps
set_option linter.unusedVariables false
def ltB (s t : ByteArray) : Bool := (keyL s).before (keyL t)
/-- The waits of process 1 behind the end of the parent. -/
def orphB (n gone : Int) : Nat → List PR → ByteArray → Int → Bool
  | 0, _, _, _ => false
  | f + 1, L, prev, got => match waitK L oneB with
    | none => false
    | some (s, st, g, L') =>
      if g = 0 then (!(decide (s = b11) && !decide (st = 99))) && ltB prev s && orphB n gone f L' s (got + 1)
      else (if gone = n then decide (g = 61) else decide (g = 63) && decide (gone < n)) && decide (got = gone + 1) && (match get L' oneB with | some p => decide (p.share = 30 - 2 * (n - gone)) && fineB p | none => false)
/-- The children that are made, of which some end. -/
def orphA (n : Int) : Nat → Int → Int → List PR → Bool
  | 0, i, gone, L => decide (i = n) && (match waitK L oneB with | some (_, _, g, L1) => decide (g = 63) && (match exitK L1 b11 99 with | some L2 => orphB n gone 12 L2 ⟨#[]⟩ 0 | none => false) | none => false)
  | f + 1, i, gone, L => decide (i < n) && (match forkK L b11 1 with
    | none => false
    | some (s, L1) => orphA n f (i + 1) gone L1 && (match exitK L1 s i with | none => false | some L2 => orphA n f (i + 1) (gone + 1) L2))
def oL0 : List PR := match forkK [firstP 30] oneB 20 with | some (_, L) => L | none => []
theorem oL0_eq : forkK [firstP 30] oneB 20 = some (b11, oL0) := by kernel_rfl
theorem orph1 : orphA 1 1 0 0 oL0 = true := by kernel_rfl
theorem orph2 : orphA 2 2 0 0 oL0 = true := by kernel_rfl
theorem orph3 : orphA 3 3 0 0 oL0 = true := by kernel_rfl
theorem orph4 : orphA 4 4 0 0 oL0 = true := by kernel_rfl
theorem orph5 : orphA 5 5 0 0 oL0 = true := by kernel_rfl
theorem orph6 : orphA 6 6 0 0 oL0 = true := by kernel_rfl
theorem orph7 : orphA 7 7 0 0 oL0 = true := by kernel_rfl
theorem orph8 : orphA 8 8 0 0 oL0 = true := by kernel_rfl
end Go.Proofs.YtmphnoabkmoafaaDoor
