/- A process that is written cell by cell. -/
import Derived.Test.YtmphnoabkmoafaaDoorActs1
import Derived.Test.YtmphnoabkmoafaaDoorTwin
namespace Go.Proofs.YtmphnoabkmoafaaDoor
open Go.RowKit Go.Maps
set_option linter.unusedVariables false
/-- w' is w but for the block g, which bears the cells cs. -/
structure At66 (w w' : World) (g : Nat) (cs : Array Value) : Prop where
  row : w'.heap[g]? = some (.cells cs 66 (0, 0))
  was : ∃ cs0, w.heap[g]? = some (.cells cs0 66 (0, 0))
  far : ∀ k, k ≠ g → w'.heap[k]? = w.heap[k]?
  size : w'.heap.size = w.heap.size
  below : Below g w w'
section
variable {w w' : World} {g : Nat} {cs : Array Value}
theorem At66.start (h : w.heap[g]? = some (.cells cs 66 (0, 0))) : At66 w w g cs := ⟨h, ⟨cs, h⟩, fun _ _ => rfl, rfl, Below.refl _ _⟩
theorem At66.set (h : At66 w w' g cs) (i : Nat) (u : Value) : At66 w (w'.setCell ⟨g, i, none⟩ u) g (cs.setIfInBounds i u) where
  row := heap_setCell_same w' g i _ 66 u h.row
  was := h.was
  far := fun k hk => (heap_setCell_other w' ⟨g, i, none⟩ k u (by simpa using hk)).trans (h.far k hk)
  size := by rw [World.size_setCell]; exact h.size
  below := h.below.setCell (by simp) u
theorem At66.keep3 (h : At66 w w' g cs) : Keep3 w w' := by
  obtain ⟨cs0, h0⟩ := h.was
  exact Keep3.of_far (by decide) h0 h.far
theorem At66.cell (h : At66 w w' g cs) (i : Nat) : w'.cell? ⟨g, i, none⟩ = cs[i]? := cell_of_row w' g i _ 66 (0, 0) h.row
theorem At66.frozen (h : At66 w w' g cs) (i : Nat) : w'.frozen? ⟨g, i, none⟩ = false := frozen_of_row w' g i _ 66 h.row
theorem At66.cellFar (h : At66 w w' g cs) {a : Addr} (ha : a.block ≠ g) : w'.cell? a = w.cell? a := World.cell?_of_block (w := w) (w' := w') (h.far _ ha)
variable {B T M : Nat} {bl : ByteArray → Nat} {L : List PR}
theorem TabAt.at66 (h : TabAt w B T M bl L) {p p' : PR} (hp : p ∈ L) (hid : p'.id = p.id) {a b c d : Value} (k : At66 w w' (bl p.id) (p'.cells a b c d)) (hS : IntsAt w a p'.S) (hI : IntsAt w b p'.I) (hP : IntsAt w c p'.Plus) (hM : IntsAt w d p'.Minus) :
    TabAt w' B T M bl (updP p' L) ∧ Bel B w w' :=
  ⟨h.turn hp hid k.far ⟨a, b, c, d, k.row, hS.keep k.keep3, hI.keep k.keep3, hP.keep k.keep3, hM.keep k.keep3⟩, k.below.mono (h.lowP p hp), by obtain ⟨cs0, h0⟩ := k.was; exact Still.of_far h0 k.far⟩
theorem TabAt.neT (h : TabAt w B T M bl L) {p : PR} (hp : p ∈ L) : T ≠ bl p.id := by
  obtain ⟨_, _, _, _, h0⟩ := h.procs p hp
  rintro e
  have := h.tab
  rw [e, h0.row] at this
  cases this
theorem TabAt.neM (h : TabAt w B T M bl L) {p : PR} (hp : p ∈ L) : M ≠ bl p.id := by
  obtain ⟨_, _, _, _, h0⟩ := h.procs p hp
  rintro e
  obtain ⟨es, clock, hb, _⟩ := h.map
  rw [e, h0.row] at hb
  cases hb
theorem TabAt.ltM (h : TabAt w B T M bl L) : M < w.heap.size := by
  obtain ⟨es, clock, hb, _⟩ := h.map
  exact (Array.getElem?_eq_some_iff.1 hb).1
end
end Go.Proofs.YtmphnoabkmoafaaDoor
