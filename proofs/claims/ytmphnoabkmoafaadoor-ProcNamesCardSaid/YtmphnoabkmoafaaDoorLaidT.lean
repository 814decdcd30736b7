/- A slice of whole numbers that came in; the table of bits.TrailingZeros, out of what the row lays. -/
import Derived.Test.YtmphnoabkmoafaaDoorBools
import Derived.Test.YtmphnoabkmoafaaDoorZeros
import Derived.ChangeSlices
import Derived.MakeChecks
namespace Go.Proofs.YtmphnoabkmoafaaDoor
open Go.ChangeShapes Go.WideShapes Go.ChangeAt Go.RowKit Go.Deep
set_option linter.unusedVariables false
def IntsIn (w : World) (v : Value) (m : Nat) (F : Nat → Int) : Prop := ∃ ao cap, v = .slice ao m cap ∧ m ≤ maxLen ∧ ∀ i, i < m → ∃ b off, ao = some ⟨b, off, none⟩ ∧ b < w.heap.size ∧ w.cell? ⟨b, off + i, none⟩ = some (.int .i64 (F i))
theorem ints_open {H : Type} {enc : TypeId × Value → H} {w : World} {v : Value} {d : DataW H} {p : List MemPlace} (h : DataW.Trod enc Tryd.prog w 0 (fun _ => true) true 22 v d p) (hv : ∃ a l c, v = .slice a l c) : ∃ m F, IntsIn w v m F := by
  obtain ⟨n, hn⟩ := h
  obtain ⟨a, l, c, rfl⟩ := hv
  rcases open_ints Tryd.underlying22 Tryd.underlying3 (by kernel_rfl) hn with ⟨hcs, _⟩ | ⟨x, len, cap, zs, hcs, _, hl, hm, hz, _, hcell, _⟩
  · have e : Value.slice a l c = .slice none 0 0 := by simpa [Value.cells] using hcs
    exact ⟨0, fun _ => 0, none, 0, e, Nat.zero_le _, fun i hi => by omega⟩
  · have e : Value.slice a l c = .slice (some x) len cap := by simpa [Value.cells] using hcs
    have hz' : zs.length = cap := by simpa using hz
    refine ⟨len, fun i => zs.getD i 0, some x, cap, e, by omega, fun i hi => ?_⟩
    obtain ⟨b, off, rfl, hb⟩ := spot_none (hcell 0 (by omega))
    exact ⟨b, off, rfl, hb, by rw [← add_none]; exact hcell i (by omega)⟩
theorem g64 : Tryd.prog.globalNamed "math/bits.deBruijn64tab" = some 1 := by kernel_rfl
theorem tg64 : (Tryd.prog.globals[1]?).map (·.type) = some 111 := by kernel_rfl
theorem c5 : Tryd.prog.cellsOf 5 = 1 := by kernel_rfl
theorem tab_lits : (Rows.laid_math_bits_deBruijn64tab : DataW Unit) = .agg (Lib.deBruijn64tab.map fun (n : Nat) => .lit (.int .u8 (n : Int))) := by kernel_rfl
theorem tab_of_laid {W : World} (h : laidMetH Tryd.prog lay3 W) : _root_.Go.Proofs.TabAt 1 Lib.deBruijn64tab W ∧ 1 < W.heap.size := by
  rw [MakeChecks.laidMetH_plain _ _ _ (by kernel_rfl)] at h
  obtain ⟨ps, ⟨g0, t0, cs0, f0, p0, q0, hg0, ht0, hv0, hd0, ⟨g1, t1, cs1, f1, p1, q1, hg1, ht1, hv1, hd1, _, _⟩, _⟩, _, _⟩ := h
  obtain rfl := Option.some.inj (g64.symm.trans hg1)
  obtain rfl := Option.some.inj (tg64.symm.trans ht1)
  obtain ⟨xs, m1, rfl, hx1, hlen, hn, hel⟩ := DataW.trod_array Tryd.underlying111 hd1
  rw [tab_lits] at hx1
  simp only [Prod.mk.injEq, DataW.agg.injEq] at hx1
  have hl : xs.map (·.1) = Lib.deBruijn64tab.map fun (n : Nat) => DataW.lit (.int .u8 (n : Int)) := hx1.1.symm
  have key : ∀ j, j < Lib.deBruijn64tab.length → W.cell? ⟨1, j, none⟩ = some (.int .u8 (Lib.deBruijn64tab.getD j 0)) := fun j hj => by
    have h64 : Lib.deBruijn64tab.length = 64 := by decide
    have h1 := hel j (by omega)
    rw [c5, Nat.mul_one] at h1
    rw [List.getElem?_eq_getElem (by omega)] at h1
    obtain ⟨k, e1, e2, _⟩ := DataW.trod_int Tryd.underlying5 h1
    have e3 : (xs.map (·.1))[j]? = (Lib.deBruijn64tab.map fun (n : Nat) => DataW.lit (H := Unit) (.int .u8 (n : Int)))[j]? := by rw [hl]
    rw [List.getElem?_map, List.getElem?_map, List.getElem?_eq_getElem (by omega), List.getElem?_eq_getElem hj, e2] at e3
    simp only [Option.map_some, Option.some.injEq, DataW.lit.injEq, Lit.int.injEq, true_and] at e3
    have e4 : cs1.toList[j]? = some (.int .u8 k) := by
      have : ((cs1.toList.drop j).take 1)[0]? = some (Value.int .u8 k) := by rw [e1]; rfl
      simpa using this
    have := World.var?_cell hg1 hv1 j
    rw [this, ← Array.getElem?_toList, e4, e3]
    simp [List.getD, hj]
  exact ⟨key, World.block_lt_of_cell? W ⟨1, 0, none⟩ (key 0 (by decide))⟩
end Go.Proofs.YtmphnoabkmoafaaDoor
