/- What every row of this seat wants: a world in which the listed variables hold what the text lays; the table of powers of ten out of what is laid. What the row of PassReads wants: a world in which the five listed variables hold what the text lays; the two errors and the table out of what is laid. -/
import Derived.Test.YtkgbldkjpohinaaGreatDoorRows
import Derived.Test.YtkgbldkjpohinaaGreatDoorTie
import Derived.Test.YtkgbldkjpohinaaGreatDoorCards
import Derived.WalkKit
import Derived.ProofKit
import Derived.LaidMore
import Derived.OpenShut
import Derived.Stop.Joined
import Derived.Below
import Derived.MakeChecks
import Derived.Lib.LaidTab
import Derived.Lib.ItoaNum
import Derived.Shelf.LaysM
import Derived.Test.YtkgbldkjpohinaaGreatDoorNumber
namespace Go.Proofs.YtkgbldkjpohinaaGreatDoor
open Go.ChangeShapes Go.WideShapes Go.ChangeAt Go.RowKit
set_option linter.unusedVariables false
theorem own : ownKnob Tryz.prog.godebug = none := by kernel_rfl
theorem laidOut : laidOutB Tryz.prog = true := by kernel_rfl
def lay3 : List (String × DataW Unit) := [("math/bits.deBruijn32tab", Rows.laid_math_bits_deBruijn32tab), ("math/bits.deBruijn64tab", Rows.laid_math_bits_deBruijn64tab), ("internal/strconv.uint64pow10", Rows.laid_internal_strconv_uint64pow10)]
/-- The door's own heap meets the condition: three closed facts. -/
theorem door_met (os : Os) (args : Array Value) : laidMetH Tryz.prog lay3 ((World.doorLaid Tryz.prog 400 os).forCall (fun _ _ => 0) ⟨#[], args, []⟩).memory :=
  laidMetH_of_parts3 (fuel := 8) (laidMet_of_run' 8 (by kernel_rfl) (by kernel_rfl)) (by kernel_rfl) (by kernel_rfl)
theorem gp : Tryz.prog.globalNamed "internal/strconv.uint64pow10" = some 1 := by kernel_rfl
theorem tgp : (Tryz.prog.globals[1]?).map (·.type) = some 151 := by kernel_rfl
theorem undp : Tryz.prog.underlying 151 = some (.array 20 105) := by kernel_rfl
theorem und77 : Tryz.prog.underlying 105 = some (.int .u64) := by kernel_rfl
theorem pow_lits : (Rows.laid_internal_strconv_uint64pow10 : DataW Unit) = Lib.tabData .u64 Lib.pow10Tab := by kernel_rfl
theorem tab_pow {W : World} (h : laidMetH Tryz.prog lay3 W) : Lib.TabIs Tryz.prog W "internal/strconv.uint64pow10" .u64 Lib.pow10Tab := by
  rw [MakeChecks.laidMetH_plain _ _ _ (by kernel_rfl)] at h
  obtain ⟨ps, ⟨g0, t0, cs0, f0, p0, q0, hg0, ht0, hv0, hd0, ⟨g1, t1, cs1, f1, p1, q1, hg1, ht1, hv1, hd1, ⟨g2, t2, cs2, f2, p2, q2, hg2, ht2, hv2, hd2, _, _⟩, _⟩, _⟩, _, _⟩ := h
  obtain rfl := Option.some.inj (gp.symm.trans hg2)
  obtain rfl := Option.some.inj (tgp.symm.trans ht2)
  unfold Lib.TabIs
  rw [pow_lits] at hd2
  rw [hv2, ← Lib.cells_of_tab undp und77 (by kernel_rfl) (by kernel_rfl) hd2]
end Go.Proofs.YtkgbldkjpohinaaGreatDoor
namespace Go.Proofs.YtkgbldkjpohinaaGreatDoor
open Go.ChangeShapes Go.WideShapes Go.ChangeAt Go.RowKit
set_option linter.unusedVariables false
def lay5 : List (String × DataW Unit) := [("math/bits.deBruijn32tab", Rows.laid_math_bits_deBruijn32tab), ("math/bits.deBruijn64tab", Rows.laid_math_bits_deBruijn64tab), ("internal/strconv.uint64pow10", Rows.laid_internal_strconv_uint64pow10), ("strconv.ErrRange", Rows.laid_strconv_ErrRange), ("strconv.ErrSyntax", Rows.laid_strconv_ErrSyntax)]
theorem door_met5 (os : Os) (args : Array Value) : laidMetH Tryz.prog lay5 ((World.doorLaid Tryz.prog 400 os).forCall (fun _ _ => 0) ⟨#[], args, []⟩).memory :=
  laidMetH_of_parts3 (fuel := 8) (laidMet_of_run' 8 (by kernel_rfl) (by kernel_rfl)) (by kernel_rfl) (by kernel_rfl)
theorem g3r : Tryz.prog.globalNamed "strconv.ErrRange" = some 3 := by kernel_rfl
theorem g2s : Tryz.prog.globalNamed "strconv.ErrSyntax" = some 2 := by kernel_rfl
theorem tg3 : (Tryz.prog.globals[3]?).map (·.type) = some 76 := by kernel_rfl
theorem tg2 : (Tryz.prog.globals[2]?).map (·.type) = some 76 := by kernel_rfl
theorem und60i : ∃ ms, Tryz.prog.underlying 76 = some (.interface ms) := ⟨_, Tryz.underlying76⟩
theorem trod_err {H : Type} {enc : TypeId × Value → H} {W : World} {fuel : Nat} {cs : List Value} {s : String} {d : DataW H} {p : List MemPlace} {hd : Bool} (h : DataW.trod enc Tryz.prog W 0 (fun _ => true) hd fuel 76 cs = some (.iface s d, p)) : ∃ t v, cs = [.iface t v] := by
  obtain ⟨ms, hms⟩ := und60i
  cases fuel with
  | zero => simp [DataW.trod] at h
  | succ n =>
    unfold DataW.trod at h
    rw [hms] at h
    split at h <;> simp_all
theorem libv_of {W : World} (h : laidMetH Tryz.prog lay5 W) : LibV W := by
  rw [MakeChecks.laidMetH_plain _ _ _ (by kernel_rfl)] at h
  obtain ⟨ps, ⟨g0, t0, cs0, f0, p0, q0, hg0, ht0, hv0, hd0, ⟨g1, t1, cs1, f1, p1, q1, hg1, ht1, hv1, hd1, ⟨g2, t2, cs2, f2, p2, q2, hg2, ht2, hv2, hd2, ⟨g3, t3, cs3, f3, p3, q3, hg3, ht3, hv3, hd3, ⟨g4, t4, cs4, f4, p4, q4, hg4, ht4, hv4, hd4, _, _⟩, _⟩, _⟩, _⟩, _⟩, _, _⟩ := h
  obtain rfl := Option.some.inj (gp.symm.trans hg2)
  obtain rfl := Option.some.inj (tgp.symm.trans ht2)
  obtain rfl := Option.some.inj (g3r.symm.trans hg3)
  obtain rfl := Option.some.inj (tg3.symm.trans ht3)
  obtain rfl := Option.some.inj (g2s.symm.trans hg4)
  obtain rfl := Option.some.inj (tg2.symm.trans ht4)
  obtain ⟨u3, x3, e3⟩ := trod_err hd3
  obtain ⟨u2, x2, e2⟩ := trod_err hd4
  refine ⟨?_, ?_, ?_, ?_⟩
  · unfold Lib.TabIs
    rw [pow_lits] at hd2
    rw [hv2, ← Lib.cells_of_tab undp und77 (by kernel_rfl) (by kernel_rfl) hd2]
  · have h3 : ∃ o, W.heap[3]? = some o := by
      unfold World.var? at hv3
      rw [g3r] at hv3
      cases ho : W.heap[3]? with
      | none => simp [ho] at hv3
      | some o => exact ⟨o, rfl⟩
    obtain ⟨o, ho⟩ := h3
    exact (Array.getElem?_eq_some_iff.1 ho).1
  · have e : cs4 = #[.iface u2 x2] := by cases cs4; simp_all
    rw [e] at hv4
    exact ⟨u2, x2, (World.var?_cell g2s hv4 0).trans rfl⟩
  · have e : cs3 = #[.iface u3 x3] := by cases cs3; simp_all
    rw [e] at hv3
    exact ⟨u3, x3, (World.var?_cell g3r hv3 0).trans rfl⟩
end Go.Proofs.YtkgbldkjpohinaaGreatDoor
