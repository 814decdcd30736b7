/- What every row of this seat wants: a world in which the listed variables hold what the text lays; the table of powers of ten out of what is laid. -/
import Derived.Test.YtkgbldkjpohinaaDoorRows
import Derived.Test.YtkgbldkjpohinaaDoorTie
import Derived.Test.YtkgbldkjpohinaaDoorCards
import Derived.WalkKit
import Derived.ProofKit
import Derived.LaidMore
import Derived.OpenShut
import Derived.Stop.Joined
import Derived.Below
import Derived.MakeChecks
import Derived.Lib.LaidTab
import Derived.Lib.ItoaNum
import Derived.Shelf.LaysM
namespace Go.Proofs.YtkgbldkjpohinaaDoor
open Go.ChangeShapes Go.WideShapes Go.ChangeAt Go.RowKit
set_option linter.unusedVariables false
theorem own : ownKnob Tryd.prog.godebug = none := by kernel_rfl
theorem laidOut : laidOutB Tryd.prog = true := by kernel_rfl
def lay3 : List (String × DataW Unit) := [("math/bits.deBruijn32tab", Rows.laid_math_bits_deBruijn32tab), ("math/bits.deBruijn64tab", Rows.laid_math_bits_deBruijn64tab), ("internal/strconv.uint64pow10", Rows.laid_internal_strconv_uint64pow10)]
/-- The door's own heap meets the condition: three closed facts. -/
theorem door_met (os : Os) (args : Array Value) : laidMetH Tryd.prog lay3 ((World.doorLaid Tryd.prog 400 os).forCall (fun _ _ => 0) ⟨#[], args, []⟩).memory :=
  laidMetH_of_parts3 (fuel := 8) (laidMet_of_run' 8 (by kernel_rfl) (by kernel_rfl)) (by kernel_rfl) (by kernel_rfl)
theorem gp : Tryd.prog.globalNamed "internal/strconv.uint64pow10" = some 0 := by kernel_rfl
theorem tgp : (Tryd.prog.globals[0]?).map (·.type) = some 124 := by kernel_rfl
theorem undp : Tryd.prog.underlying 124 = some (.array 20 77) := by kernel_rfl
theorem und77 : Tryd.prog.underlying 77 = some (.int .u64) := by kernel_rfl
theorem pow_lits : (Rows.laid_internal_strconv_uint64pow10 : DataW Unit) = Lib.tabData .u64 Lib.pow10Tab := by kernel_rfl
theorem tab_pow {W : World} (h : laidMetH Tryd.prog lay3 W) : Lib.TabIs Tryd.prog W "internal/strconv.uint64pow10" .u64 Lib.pow10Tab := by
  rw [MakeChecks.laidMetH_plain _ _ _ (by kernel_rfl)] at h
  obtain ⟨ps, ⟨g0, t0, cs0, f0, p0, q0, hg0, ht0, hv0, hd0, ⟨g1, t1, cs1, f1, p1, q1, hg1, ht1, hv1, hd1, ⟨g2, t2, cs2, f2, p2, q2, hg2, ht2, hv2, hd2, _, _⟩, _⟩, _⟩, _, _⟩ := h
  obtain rfl := Option.some.inj (gp.symm.trans hg2)
  obtain rfl := Option.some.inj (tgp.symm.trans ht2)
  unfold Lib.TabIs
  rw [pow_lits] at hd2
  rw [hv2, ← Lib.cells_of_tab undp und77 (by kernel_rfl) (by kernel_rfl) hd2]
end Go.Proofs.YtkgbldkjpohinaaDoor
