/- What the boxes of a call's structs hold, in every world in which all is as it was. -/
import Derived.Below
import Derived.WalkKit
import Derived.Deep.WholeRow
import Derived.Test.YtmphnoabkmoafaaGreatDoorM0
namespace Go.Proofs.YtmphnoabkmoafaaGreatDoor
open Go.RowKit
theorem box_cell {w W W' : World} {cs : Array Value} {t : TypeId} (h1 : Below (w.alloc (.cells cs t)).heap.size (w.alloc (.cells cs t)) W) (h2 : Below W.heap.size W W') {j : Nat} {v : Value} (hj : cs[j]? = some v) : W'.cell? ⟨w.heap.size, j, none⟩ = some v := by
  have hB : (w.alloc (.cells cs t)).heap[w.heap.size]? = some (.cells cs t (0, 0)) := heap_alloc_new _ _
  have h0 : (w.alloc (.cells cs t)).cell? ⟨w.heap.size, j, none⟩ = some v := by rw [cell_of_row _ _ j _ t (0, 0) hB]; exact hj
  have hs : (w.alloc (.cells cs t)).heap.size = w.heap.size + 1 := by simp
  have e1 := h1.cell (p := ⟨w.heap.size, j, none⟩) (by rw [hs]; simp only; omega)
  have e2 := h2.cell (p := ⟨w.heap.size, j, none⟩) (by have := h1.size; rw [hs] at this; simp only; omega)
  rw [e2, e1, h0]

theorem box1 (w : World) (a b : Value) (t0 : TypeId) : ∃ W, W = (w.alloc (.cells #[a, b] t0)) ∧ Below w.heap.size w W ∧ W.heap.size = w.heap.size + 1 ∧ ∀ W', Below W.heap.size W W' → W'.cell? ⟨w.heap.size, 0, none⟩ = some a ∧ W'.cell? ⟨w.heap.size, 1, none⟩ = some b := by
  obtain ⟨W1, h1⟩ : ∃ W, W = w.alloc (.cells #[a, b] t0) := ⟨_, rfl⟩
  have s1 : W1.heap.size = w.heap.size + 1 := by rw [h1]; simp
  have k1 : Below w.heap.size w W1 := by rw [h1]; exact (Below.refl _ _).alloc (Nat.le_refl _) _
  have q1 : Below W1.heap.size W1 W1 := Below.refl _ _
  refine ⟨W1, by rw [h1], k1.trans (q1.mono k1.size), by omega, fun W' h => ?_⟩
  exact ⟨box_cell (w := w) (cs := #[a, b]) (t := t0) (h1 ▸ q1) h rfl, box_cell (w := w) (cs := #[a, b]) (t := t0) (h1 ▸ q1) h rfl⟩
theorem box2 (w : World) (a b c d : Value) (t0 t1 : TypeId) : ∃ W, W = ((w.alloc (.cells #[a, b] t0)).alloc (.cells #[c, d] t1)) ∧ Below w.heap.size w W ∧ W.heap.size = w.heap.size + 2 ∧ ∀ W', Below W.heap.size W W' → W'.cell? ⟨w.heap.size, 0, none⟩ = some a ∧ W'.cell? ⟨w.heap.size, 1, none⟩ = some b ∧ W'.cell? ⟨w.heap.size + 1, 0, none⟩ = some c ∧ W'.cell? ⟨w.heap.size + 1, 1, none⟩ = some d := by
  obtain ⟨W1, h1⟩ : ∃ W, W = w.alloc (.cells #[a, b] t0) := ⟨_, rfl⟩
  have s1 : W1.heap.size = w.heap.size + 1 := by rw [h1]; simp
  have k1 : Below w.heap.size w W1 := by rw [h1]; exact (Below.refl _ _).alloc (Nat.le_refl _) _
  obtain ⟨W2, h2⟩ : ∃ W, W = W1.alloc (.cells #[c, d] t1) := ⟨_, rfl⟩
  have s2 : W2.heap.size = w.heap.size + 1 + 1 := by rw [h2]; simp [s1]
  have k2 : Below W1.heap.size W1 W2 := by rw [h2]; exact (Below.refl _ _).alloc (Nat.le_refl _) _
  have q2 : Below W2.heap.size W2 W2 := Below.refl _ _
  have q1 : Below W1.heap.size W1 W2 := k2.trans (q2.mono k2.size)
  refine ⟨W2, by rw [h2, h1], k1.trans (q1.mono k1.size), by omega, fun W' h => ?_⟩
  exact ⟨box_cell (w := w) (cs := #[a, b]) (t := t0) (h1 ▸ q1) h rfl, box_cell (w := w) (cs := #[a, b]) (t := t0) (h1 ▸ q1) h rfl, s1 ▸ box_cell (w := W1) (cs := #[c, d]) (t := t1) (h2 ▸ q2) h rfl, s1 ▸ box_cell (w := W1) (cs := #[c, d]) (t := t1) (h2 ▸ q2) h rfl⟩
theorem box3 (w : World) (a b c d e f : Value) (t0 t1 t2 : TypeId) : ∃ W, W = (((w.alloc (.cells #[a, b] t0)).alloc (.cells #[c, d] t1)).alloc (.cells #[e, f] t2)) ∧ Below w.heap.size w W ∧ W.heap.size = w.heap.size + 3 ∧ ∀ W', Below W.heap.size W W' → W'.cell? ⟨w.heap.size, 0, none⟩ = some a ∧ W'.cell? ⟨w.heap.size, 1, none⟩ = some b ∧ W'.cell? ⟨w.heap.size + 1, 0, none⟩ = some c ∧ W'.cell? ⟨w.heap.size + 1, 1, none⟩ = some d ∧ W'.cell? ⟨w.heap.size + 1 + 1, 0, none⟩ = some e ∧ W'.cell? ⟨w.heap.size + 1 + 1, 1, none⟩ = some f := by
  obtain ⟨W1, h1⟩ : ∃ W, W = w.alloc (.cells #[a, b] t0) := ⟨_, rfl⟩
  have s1 : W1.heap.size = w.heap.size + 1 := by rw [h1]; simp
  have k1 : Below w.heap.size w W1 := by rw [h1]; exact (Below.refl _ _).alloc (Nat.le_refl _) _
  obtain ⟨W2, h2⟩ : ∃ W, W = W1.alloc (.cells #[c, d] t1) := ⟨_, rfl⟩
  have s2 : W2.heap.size = w.heap.size + 1 + 1 := by rw [h2]; simp [s1]
  have k2 : Below W1.heap.size W1 W2 := by rw [h2]; exact (Below.refl _ _).alloc (Nat.le_refl _) _
  obtain ⟨W3, h3⟩ : ∃ W, W = W2.alloc (.cells #[e, f] t2) := ⟨_, rfl⟩
  have s3 : W3.heap.size = w.heap.size + 1 + 1 + 1 := by rw [h3]; simp [s2]
  have k3 : Below W2.heap.size W2 W3 := by rw [h3]; exact (Below.refl _ _).alloc (Nat.le_refl _) _
  have q3 : Below W3.heap.size W3 W3 := Below.refl _ _
  have q2 : Below W2.heap.size W2 W3 := k3.trans (q3.mono k3.size)
  have q1 : Below W1.heap.size W1 W3 := k2.trans (q2.mono k2.size)
  refine ⟨W3, by rw [h3, h2, h1], k1.trans (q1.mono k1.size), by omega, fun W' h => ?_⟩
  exact ⟨box_cell (w := w) (cs := #[a, b]) (t := t0) (h1 ▸ q1) h rfl, box_cell (w := w) (cs := #[a, b]) (t := t0) (h1 ▸ q1) h rfl, s1 ▸ box_cell (w := W1) (cs := #[c, d]) (t := t1) (h2 ▸ q2) h rfl, s1 ▸ box_cell (w := W1) (cs := #[c, d]) (t := t1) (h2 ▸ q2) h rfl, s2 ▸ box_cell (w := W2) (cs := #[e, f]) (t := t2) (h3 ▸ q3) h rfl, s2 ▸ box_cell (w := W2) (cs := #[e, f]) (t := t2) (h3 ▸ q3) h rfl⟩
theorem box4 (w : World) (a b c d e f g x : Value) (t0 t1 t2 t3 : TypeId) : ∃ W, W = ((((w.alloc (.cells #[a, b] t0)).alloc (.cells #[c, d] t1)).alloc (.cells #[e, f] t2)).alloc (.cells #[g, x] t3)) ∧ Below w.heap.size w W ∧ W.heap.size = w.heap.size + 4 ∧ ∀ W', Below W.heap.size W W' → W'.cell? ⟨w.heap.size, 0, none⟩ = some a ∧ W'.cell? ⟨w.heap.size, 1, none⟩ = some b ∧ W'.cell? ⟨w.heap.size + 1, 0, none⟩ = some c ∧ W'.cell? ⟨w.heap.size + 1, 1, none⟩ = some d ∧ W'.cell? ⟨w.heap.size + 1 + 1, 0, none⟩ = some e ∧ W'.cell? ⟨w.heap.size + 1 + 1, 1, none⟩ = some f ∧ W'.cell? ⟨w.heap.size + 1 + 1 + 1, 0, none⟩ = some g ∧ W'.cell? ⟨w.heap.size + 1 + 1 + 1, 1, none⟩ = some x := by
  obtain ⟨W1, h1⟩ : ∃ W, W = w.alloc (.cells #[a, b] t0) := ⟨_, rfl⟩
  have s1 : W1.heap.size = w.heap.size + 1 := by rw [h1]; simp
  have k1 : Below w.heap.size w W1 := by rw [h1]; exact (Below.refl _ _).alloc (Nat.le_refl _) _
  obtain ⟨W2, h2⟩ : ∃ W, W = W1.alloc (.cells #[c, d] t1) := ⟨_, rfl⟩
  have s2 : W2.heap.size = w.heap.size + 1 + 1 := by rw [h2]; simp [s1]
  have k2 : Below W1.heap.size W1 W2 := by rw [h2]; exact (Below.refl _ _).alloc (Nat.le_refl _) _
  obtain ⟨W3, h3⟩ : ∃ W, W = W2.alloc (.cells #[e, f] t2) := ⟨_, rfl⟩
  have s3 : W3.heap.size = w.heap.size + 1 + 1 + 1 := by rw [h3]; simp [s2]
  have k3 : Below W2.heap.size W2 W3 := by rw [h3]; exact (Below.refl _ _).alloc (Nat.le_refl _) _
  obtain ⟨W4, h4⟩ : ∃ W, W = W3.alloc (.cells #[g, x] t3) := ⟨_, rfl⟩
  have s4 : W4.heap.size = w.heap.size + 1 + 1 + 1 + 1 := by rw [h4]; simp [s3]
  have k4 : Below W3.heap.size W3 W4 := by rw [h4]; exact (Below.refl _ _).alloc (Nat.le_refl _) _
  have q4 : Below W4.heap.size W4 W4 := Below.refl _ _
  have q3 : Below W3.heap.size W3 W4 := k4.trans (q4.mono k4.size)
  have q2 : Below W2.heap.size W2 W4 := k3.trans (q3.mono k3.size)
  have q1 : Below W1.heap.size W1 W4 := k2.trans (q2.mono k2.size)
  refine ⟨W4, by rw [h4, h3, h2, h1], k1.trans (q1.mono k1.size), by omega, fun W' h => ?_⟩
  exact ⟨box_cell (w := w) (cs := #[a, b]) (t := t0) (h1 ▸ q1) h rfl, box_cell (w := w) (cs := #[a, b]) (t := t0) (h1 ▸ q1) h rfl, s1 ▸ box_cell (w := W1) (cs := #[c, d]) (t := t1) (h2 ▸ q2) h rfl, s1 ▸ box_cell (w := W1) (cs := #[c, d]) (t := t1) (h2 ▸ q2) h rfl, s2 ▸ box_cell (w := W2) (cs := #[e, f]) (t := t2) (h3 ▸ q3) h rfl, s2 ▸ box_cell (w := W2) (cs := #[e, f]) (t := t2) (h3 ▸ q3) h rfl, s3 ▸ box_cell (w := W3) (cs := #[g, x]) (t := t3) (h4 ▸ q4) h rfl, s3 ▸ box_cell (w := W3) (cs := #[g, x]) (t := t3) (h4 ▸ q4) h rfl⟩
theorem box5 (w : World) (a b c d e f g x y z : Value) (t0 t1 t2 t3 t4 : TypeId) : ∃ W, W = (((((w.alloc (.cells #[a, b] t0)).alloc (.cells #[c, d] t1)).alloc (.cells #[e, f] t2)).alloc (.cells #[g, x] t3)).alloc (.cells #[y, z] t4)) ∧ Below w.heap.size w W ∧ W.heap.size = w.heap.size + 5 ∧ ∀ W', Below W.heap.size W W' → W'.cell? ⟨w.heap.size, 0, none⟩ = some a ∧ W'.cell? ⟨w.heap.size, 1, none⟩ = some b ∧ W'.cell? ⟨w.heap.size + 1, 0, none⟩ = some c ∧ W'.cell? ⟨w.heap.size + 1, 1, none⟩ = some d ∧ W'.cell? ⟨w.heap.size + 1 + 1, 0, none⟩ = some e ∧ W'.cell? ⟨w.heap.size + 1 + 1, 1, none⟩ = some f ∧ W'.cell? ⟨w.heap.size + 1 + 1 + 1, 0, none⟩ = some g ∧ W'.cell? ⟨w.heap.size + 1 + 1 + 1, 1, none⟩ = some x ∧ W'.cell? ⟨w.heap.size + 1 + 1 + 1 + 1, 0, none⟩ = some y ∧ W'.cell? ⟨w.heap.size + 1 + 1 + 1 + 1, 1, none⟩ = some z := by
  obtain ⟨W1, h1⟩ : ∃ W, W = w.alloc (.cells #[a, b] t0) := ⟨_, rfl⟩
  have s1 : W1.heap.size = w.heap.size + 1 := by rw [h1]; simp
  have k1 : Below w.heap.size w W1 := by rw [h1]; exact (Below.refl _ _).alloc (Nat.le_refl _) _
  obtain ⟨W2, h2⟩ : ∃ W, W = W1.alloc (.cells #[c, d] t1) := ⟨_, rfl⟩
  have s2 : W2.heap.size = w.heap.size + 1 + 1 := by rw [h2]; simp [s1]
  have k2 : Below W1.heap.size W1 W2 := by rw [h2]; exact (Below.refl _ _).alloc (Nat.le_refl _) _
  obtain ⟨W3, h3⟩ : ∃ W, W = W2.alloc (.cells #[e, f] t2) := ⟨_, rfl⟩
  have s3 : W3.heap.size = w.heap.size + 1 + 1 + 1 := by rw [h3]; simp [s2]
  have k3 : Below W2.heap.size W2 W3 := by rw [h3]; exact (Below.refl _ _).alloc (Nat.le_refl _) _
  obtain ⟨W4, h4⟩ : ∃ W, W = W3.alloc (.cells #[g, x] t3) := ⟨_, rfl⟩
  have s4 : W4.heap.size = w.heap.size + 1 + 1 + 1 + 1 := by rw [h4]; simp [s3]
  have k4 : Below W3.heap.size W3 W4 := by rw [h4]; exact (Below.refl _ _).alloc (Nat.le_refl _) _
  obtain ⟨W5, h5⟩ : ∃ W, W = W4.alloc (.cells #[y, z] t4) := ⟨_, rfl⟩
  have s5 : W5.heap.size = w.heap.size + 1 + 1 + 1 + 1 + 1 := by rw [h5]; simp [s4]
  have k5 : Below W4.heap.size W4 W5 := by rw [h5]; exact (Below.refl _ _).alloc (Nat.le_refl _) _
  have q5 : Below W5.heap.size W5 W5 := Below.refl _ _
  have q4 : Below W4.heap.size W4 W5 := k5.trans (q5.mono k5.size)
  have q3 : Below W3.heap.size W3 W5 := k4.trans (q4.mono k4.size)
  have q2 : Below W2.heap.size W2 W5 := k3.trans (q3.mono k3.size)
  have q1 : Below W1.heap.size W1 W5 := k2.trans (q2.mono k2.size)
  refine ⟨W5, by rw [h5, h4, h3, h2, h1], k1.trans (q1.mono k1.size), by omega, fun W' h => ?_⟩
  exact ⟨box_cell (w := w) (cs := #[a, b]) (t := t0) (h1 ▸ q1) h rfl, box_cell (w := w) (cs := #[a, b]) (t := t0) (h1 ▸ q1) h rfl, s1 ▸ box_cell (w := W1) (cs := #[c, d]) (t := t1) (h2 ▸ q2) h rfl, s1 ▸ box_cell (w := W1) (cs := #[c, d]) (t := t1) (h2 ▸ q2) h rfl, s2 ▸ box_cell (w := W2) (cs := #[e, f]) (t := t2) (h3 ▸ q3) h rfl, s2 ▸ box_cell (w := W2) (cs := #[e, f]) (t := t2) (h3 ▸ q3) h rfl, s3 ▸ box_cell (w := W3) (cs := #[g, x]) (t := t3) (h4 ▸ q4) h rfl, s3 ▸ box_cell (w := W3) (cs := #[g, x]) (t := t3) (h4 ▸ q4) h rfl, s4 ▸ box_cell (w := W4) (cs := #[y, z]) (t := t4) (h5 ▸ q5) h rfl, s4 ▸ box_cell (w := W4) (cs := #[y, z]) (t := t4) (h5 ▸ q5) h rfl⟩
end Go.Proofs.YtmphnoabkmoafaaGreatDoor
