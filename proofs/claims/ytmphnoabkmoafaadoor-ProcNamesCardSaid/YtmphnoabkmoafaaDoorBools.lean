/- A slice of bools that came in. -/
import Derived.Test.YtmphnoabkmoafaaDoorMet
import Derived.Deep.Grids
namespace Go.Proofs.YtmphnoabkmoafaaDoor
open Go.ChangeShapes Go.WideShapes Go.ChangeAt Go.RowKit Go.Deep
set_option linter.unusedVariables false
/-- A slice of bools that came in. -/
def BoolsAt (w : World) (v : Value) (m : Nat) (F : Nat → Bool) : Prop := ∃ ao cap, v = .slice ao m cap ∧ m ≤ maxLen ∧ ∀ i, i < m → ∃ b off, ao = some ⟨b, off, none⟩ ∧ b < w.heap.size ∧ w.cell? ⟨b, off + i, none⟩ = some (.bool (F i))
theorem spot_none {w : World} {x : Addr} {u : Value} (h1 : w.cell? (x.add 0) = some u) : ∃ b off, x = ⟨b, off, none⟩ ∧ b < w.heap.size := by
  obtain ⟨b, off, spot⟩ := x
  have hs : spot = none ∧ b < w.heap.size := by
    simp only [Addr.add, if_pos] at h1
    unfold World.cell? at h1
    split at h1
    · rename_i heq
      have := (Array.getElem?_eq_some_iff.1 heq).1
      cases spot
      · exact ⟨rfl, this⟩
      · simp at h1
    · cases h1
  obtain ⟨rfl, hb⟩ := hs
  exact ⟨b, off, rfl, hb⟩
theorem add_none (b off i : Nat) : (⟨b, off, none⟩ : Addr).add i = ⟨b, off + i, none⟩ := by
  unfold Addr.add
  split
  · simp
  · rfl
theorem bools_open {H : Type} {enc : TypeId × Value → H} {w : World} {v : Value} {d : DataW H} {p : List MemPlace} (h : DataW.Trod enc Tryd.prog w 0 (fun _ => true) true 36 v d p) (hv : ∃ a l c, v = .slice a l c) : ∃ m F, BoolsAt w v m F := by
  obtain ⟨n, hn⟩ := h
  obtain ⟨a, l, c, rfl⟩ := hv
  rcases open_bools Tryd.underlying36 Tryd.underlying4 (by kernel_rfl) hn with ⟨hcs, _⟩ | ⟨x, len, cap, B, hcs, _, hl, hm, _, hcell⟩
  · have e : Value.slice a l c = .slice none 0 0 := by simpa [Value.cells] using hcs
    exact ⟨0, fun _ => false, none, 0, e, Nat.zero_le _, fun i hi => by omega⟩
  · have e : Value.slice a l c = .slice (some x) len cap := by simpa [Value.cells] using hcs
    refine ⟨len, B, some x, cap, e, by omega, fun i hi => ?_⟩
    obtain ⟨b, off, rfl, hb⟩ := spot_none (hcell 0 (by omega))
    exact ⟨b, off, rfl, hb, by rw [← add_none]; exact hcell i (by omega)⟩
end Go.Proofs.YtmphnoabkmoafaaDoor
