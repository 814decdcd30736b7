/- A block whose first cells are 32-bit words. -/
import Derived.Test.YtkgbldkjpohinaaGreatDoorShaBase
namespace Go.Proofs.YtkgbldkjpohinaaGreatDoor
open Go.RowKit
def RowN (w : World) (B : Nat) (T : TypeId) (l : List Int) : Prop := ∃ cur, w.heap[B]? = some (.cells cur T (0, 0)) ∧ ∀ j, j < l.length → cur[j]? = some (.int .u32 (l.getD j 0))
section
variable {w w' : World} {B : Nat} {T : TypeId} {l : List Int}
theorem RowN.of (h : Row32 w B T l) : RowN w B T l := ⟨words l, h, fun j hj => by simp [words, List.getD, hj]⟩
theorem RowN.lt (h : RowN w B T l) : B < w.heap.size := by obtain ⟨cur, h, _⟩ := h; exact (Array.getElem?_eq_some_iff.1 h).1
theorem RowN.cell (h : RowN w B T l) {j : Nat} (hj : j < l.length) : w.cell? ⟨B, j, none⟩ = some (.int .u32 (l.getD j 0)) := by
  obtain ⟨cur, h1, h2⟩ := h
  rw [cell_of_row w B j _ T (0, 0) h1]; exact h2 j hj
theorem RowN.frozen (h : RowN w B T l) (j : Nat) : w.frozen? ⟨B, j, none⟩ = false := by
  obtain ⟨cur, h1, _⟩ := h
  exact frozen_of_row w B j _ T h1
theorem RowN.set (h : RowN w B T l) (j : Nat) (v : Int) : RowN (w.setCell ⟨B, j, none⟩ (.int .u32 v)) B T (l.set j v) := by
  obtain ⟨cur, h1, h2⟩ := h
  refine ⟨_, heap_setCell_same w B j _ T _ h1, fun i hi => ?_⟩
  rw [List.length_set] at hi
  by_cases e : j = i
  · subst e
    have hc := h2 j hi
    have hlt : j < cur.size := (Array.getElem?_eq_some_iff.1 hc).1
    rw [Array.getElem?_setIfInBounds_self_of_lt hlt]
    simp [List.getD, hi]
  · rw [Array.getElem?_setIfInBounds_ne e, h2 i hi]
    simp [List.getD, List.getElem?_set_ne e]
theorem RowN.other (h : RowN w B T l) {p : Addr} (hp : B ≠ p.block) (v : Value) : RowN (w.setCell p v) B T l := by
  obtain ⟨cur, h1, h2⟩ := h
  exact ⟨cur, by rw [heap_setCell_other w p B v hp]; exact h1, h2⟩
theorem RowN.alloc (h : RowN w B T l) (o : Obj) : RowN (w.alloc o) B T l := by
  have hl := h.lt
  obtain ⟨cur, h1, h2⟩ := h
  exact ⟨cur, by rw [Go.RowKit.Below.heap_alloc w o B hl]; exact h1, h2⟩
theorem RowN.below {C : Nat} (h : RowN w B T l) (hb : Below C w w') (hB : B < C) : RowN w' B T l := by
  obtain ⟨cur, h1, h2⟩ := h
  exact ⟨cur, by rw [hb.block B hB]; exact h1, h2⟩
theorem RowN.grown {row : Option Nat} (h : RowN w B T l) (hg : w.grownBy w' row) (hne : some B ≠ row) : RowN w' B T l := by
  have hl := h.lt
  obtain ⟨cur, h1, h2⟩ := h
  exact ⟨cur, by rw [hg.block B hl hne]; exact h1, h2⟩
theorem RowN.drewN (h : RowN w B T l) (n : Nat) : RowN (w.drewN n) B T l := h
theorem RowN.of_owns {base : Nat} {e : TypeId} {v : Value} {n : Nat} (h : w.ownsRow base e 1 v n (l.map (Value.int .u32))) (hn : 0 < n) : ∃ g cap, v = .slice (some ⟨g, 0, none⟩) n cap ∧ base ≤ g ∧ n ≤ cap ∧ RowN w g e l := by
  have hl : l.length = n := by simpa using h.1
  rcases h.2 with ⟨_, rfl⟩ | ⟨g, cap, cur, rfl, hb, hg, hnc, hcm, hcs, htake⟩
  · omega
  · refine ⟨g, cap, rfl, hb, hnc, cur, hg, fun j hj => ?_⟩
    have hu : (l.map (Value.int .u32))[j]? = some (.int .u32 (l.getD j 0)) := by simp [List.getD, hj]
    rw [← htake, List.getElem?_take] at hu
    split at hu
    · simpa using hu
    · cases hu
end
end Go.Proofs.YtkgbldkjpohinaaGreatDoor
