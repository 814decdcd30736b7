/- A box of two slices that is written: what stays, what it holds. -/
import Derived.Test.YtmphnoabkmoafaaDoorBox
import Derived.Test.YtmphnoabkmoafaaDoorSet
namespace Go.Proofs.YtmphnoabkmoafaaDoor
open Go.RowKit
def isSlice : Value → Bool | .slice _ _ _ => true | _ => false
theorem box_block {w W W' : World} {o : Obj} (h1 : Below (w.alloc o).heap.size (w.alloc o) W) (h2 : Below W.heap.size W W') : W'.heap[w.heap.size]? = some o := by
  have hB : (w.alloc o).heap[w.heap.size]? = some o := heap_alloc_new _ _
  have hs : (w.alloc o).heap.size = w.heap.size + 1 := by simp
  have e1 := h1.block w.heap.size (by rw [hs]; omega)
  have e2 := h2.block w.heap.size (by have := h1.size; rw [hs] at this; omega)
  rw [e2, e1, hB]
theorem box_last {w W W' : World} {o : Obj} (hW : W = w.alloc o) (h : Below W.heap.size W W') : W'.heap[w.heap.size]? = some o := by
  subst hW
  exact box_block (Below.refl _ _) h
section
variable {w : World} {B : Nat} {t : TypeId} {s0 s1 x y v : Value} {l : List Int}
theorem IntsAt.apart {cs : Array Value} (h : IntsAt w v l) (hB : w.heap[B]? = some (.cells cs t (0, 0))) (hcs : ∀ (j : Nat) (n : Int), cs[j]? ≠ some (Value.int .i64 n)) (j : Nat) (u : Value) : IntsAt (w.setCell ⟨B, j, none⟩ u) v l := by
  rcases h with h | ⟨g, off, c, hv, h0, hc, hlt, hcell⟩
  · exact .inl h
  · have hg : g ≠ B := by
      rintro rfl
      have h1 := hcell 0 h0
      rw [cell_of_row w g _ _ t (0, 0) hB] at h1
      exact hcs _ _ h1
    refine .inr ⟨g, off, c, hv, h0, hc, ⟨by rw [World.size_setCell]; exact hlt.lt, by obtain ⟨cur, hcur⟩ := hlt.ty; exact ⟨cur, by rw [heap_setCell_other w ⟨B, j, none⟩ g u (by simpa using hg)]; exact hcur⟩⟩, fun j' hj => ?_⟩
    · rw [← hcell j' hj]
      exact World.cell?_of_block (w := w) (heap_setCell_other w ⟨B, j, none⟩ g u (by simpa using hg))
structure PairStored (w w' : World) (B : Nat) (t : TypeId) (x y : Value) : Prop where
  block : w'.heap[B]? = some (.cells #[x, y] t (0, 0))
  ints : ∀ v l, IntsAt w v l → IntsAt w' v l
  below : ∀ n w0, Below n w0 w → n ≤ B → Below n w0 w'
  size : w'.heap.size = w.heap.size
  far : ∀ g, g ≠ B → w'.heap[g]? = w.heap[g]?
theorem pair_stored (hB : w.heap[B]? = some (.cells #[s0, s1] t (0, 0))) (h0 : isSlice s0 = true) (h1 : isSlice s1 = true) (hx : isSlice x = true) : PairStored w ((w.setCell ⟨B, 0, none⟩ x).setCell ⟨B, 1, none⟩ y) B t x y := by
  have e1 : (w.setCell ⟨B, 0, none⟩ x).heap[B]? = some (.cells #[x, s1] t (0, 0)) := heap_setCell_same w B 0 _ t x hB
  have e2 : ((w.setCell ⟨B, 0, none⟩ x).setCell ⟨B, 1, none⟩ y).heap[B]? = some (.cells #[x, y] t (0, 0)) := heap_setCell_same _ B 1 _ t y e1
  have k : ∀ (a b : Value), isSlice a = true → isSlice b = true → ∀ (j : Nat) (n : Int), (#[a, b] : Array Value)[j]? ≠ some (Value.int .i64 n) := by
    intro a b ha hb j n hj
    rcases j with _ | _ | j
    · simp at hj; subst hj; cases ha
    · simp at hj; subst hj; cases hb
    · simp at hj
  refine ⟨e2, fun v l h => (h.apart hB (k _ _ h0 h1) 0 x).apart e1 (k _ _ hx h1) 1 y, fun n w0 h hn => (h.setCell (by simpa using hn) _).setCell (by simpa using hn) _, by rw [World.size_setCell, World.size_setCell], fun g hg => ?_⟩
  rw [heap_setCell_other _ ⟨B, 1, none⟩ g y (by simpa using hg), heap_setCell_other w ⟨B, 0, none⟩ g x (by simpa using hg)]
theorem pair_cells (hB : w.heap[B]? = some (.cells #[x, y] t (0, 0))) : w.cell? ⟨B, 0, none⟩ = some x ∧ w.cell? ⟨B, 1, none⟩ = some y ∧ w.frozen? ⟨B, 0, none⟩ = false ∧ w.frozen? ⟨B, 1, none⟩ = false := by
  refine ⟨?_, ?_, frozen_of_row w B 0 _ t hB, frozen_of_row w B 1 _ t hB⟩
  · rw [cell_of_row w B 0 _ t (0, 0) hB]; rfl
  · rw [cell_of_row w B 1 _ t (0, 0) hB]; rfl
end
end Go.Proofs.YtmphnoabkmoafaaDoor
