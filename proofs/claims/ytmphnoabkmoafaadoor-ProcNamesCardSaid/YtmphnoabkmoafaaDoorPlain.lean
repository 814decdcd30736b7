/- What is in order, each once: plain laws. -/
import Derived.Test.YtmphnoabkmoafaaDoorNorm
namespace Go.Proofs.YtmphnoabkmoafaaDoor
open Go.RowKit Go.Lib
theorem get_bang (l : List Int) (j : Nat) (h : j < l.length) : l.toArray[j]! = l[j] := by simp [getElem!_pos, h]
theorem compact_laws (l : List Int) (hs : ∀ i j, i ≤ j → j < l.length → l.toArray[i]! ≤ l.toArray[j]!) : ∀ m, m ≤ l.length →
    (compactUpTo l.toArray m).Pairwise (· < ·) ∧ (∀ x ∈ compactUpTo l.toArray m, ∃ j, j < m ∧ l.toArray[j]! = x) ∧ (∀ j, j < m → l.toArray[j]! ∈ compactUpTo l.toArray m) := by
  intro m
  induction m with
  | zero => intro _; simp [compactUpTo]
  | succ m ih =>
    intro hm
    obtain ⟨h1, h2, h3⟩ := ih (by omega)
    rw [compactUpTo_succ]
    by_cases hk : keeps l.toArray m = true
    · rw [if_pos hk]
      refine ⟨?_, ?_, ?_⟩
      · rw [List.pairwise_append]
        refine ⟨h1, by simp, fun x hx y hy => ?_⟩
        obtain rfl : y = l.toArray[m]! := by simpa using hy
        obtain ⟨j, hj, rfl⟩ := h2 x hx
        have k1 : m = 0 ∨ l.toArray[m]! ≠ l.toArray[m - 1]! := by simpa only [keeps, decide_eq_true_eq] using hk
        have k2 := hs j (m - 1) (by omega) (by omega)
        have k3 := hs (m - 1) m (by omega) (by omega)
        rcases k1 with k1 | k1
        · omega
        · have : l.toArray[m - 1]! ≠ l.toArray[m]! := fun e => k1 e.symm
          omega
      · intro x hx
        rcases List.mem_append.1 hx with h | h
        · obtain ⟨j, hj, e⟩ := h2 x h
          exact ⟨j, by omega, e⟩
        · obtain rfl : x = l.toArray[m]! := by simpa using h
          exact ⟨m, by omega, rfl⟩
      · intro j hj
        rcases Nat.lt_or_ge j m with h | h
        · exact List.mem_append.2 (.inl (h3 j h))
        · obtain rfl : j = m := by omega
          exact List.mem_append.2 (.inr (by simp))
    · rw [if_neg hk, List.append_nil]
      have k1 : ¬ (m = 0 ∨ l.toArray[m]! ≠ l.toArray[m - 1]!) := by simpa only [keeps, decide_eq_true_eq] using hk
      refine ⟨h1, fun x hx => ?_, fun j hj => ?_⟩
      · obtain ⟨j, hj, e⟩ := h2 x hx
        exact ⟨j, by omega, e⟩
      · rcases Nat.lt_or_ge j m with h | h
        · exact h3 j h
        · obtain rfl : j = m := by omega
          have e : l.toArray[j]! = l.toArray[j - 1]! := Classical.byContradiction fun h => k1 (.inr h)
          rw [e]
          exact h3 (j - 1) (by omega)
theorem sortL_sorted (l : List Int) : (sortL l).Pairwise (· ≤ ·) := by
  have := List.pairwise_mergeSort (le := fun x y : Int => decide (x ≤ y)) (fun a b c h1 h2 => by simp at *; omega) (fun a b => by simp; omega) l
  exact this.imp (fun h => by simpa using h)
theorem normL_laws (l : List Int) : (normL l).Pairwise (· < ·) ∧ ∀ x, x ∈ normL l ↔ x ∈ l := by
  have hs : ∀ i j, i ≤ j → j < (sortL l).length → (sortL l).toArray[i]! ≤ (sortL l).toArray[j]! := by
    intro i j hij hj
    rw [get_bang _ _ (by omega), get_bang _ _ hj]
    rcases Nat.lt_or_ge i j with h | h
    · exact List.pairwise_iff_getElem.1 (sortL_sorted l) i j (by omega) hj h
    · obtain rfl : i = j := by omega
      omega
  obtain ⟨h1, h2, h3⟩ := compact_laws (sortL l) hs (sortL l).length (Nat.le_refl _)
  refine ⟨h1, fun x => ?_⟩
  have hp : x ∈ sortL l ↔ x ∈ l := (List.mergeSort_perm l _).mem_iff
  rw [← hp]
  constructor
  · intro h
    obtain ⟨j, hj, rfl⟩ := h2 x h
    rw [get_bang _ _ hj]
    exact List.getElem_mem _
  · intro h
    obtain ⟨j, hj, rfl⟩ := List.getElem_of_mem h
    have := h3 j hj
    rw [get_bang _ _ hj] at this
    exact this
theorem rise_eq : ∀ (a b : List Int), a.Pairwise (· < ·) → b.Pairwise (· < ·) → (∀ x, x ∈ a ↔ x ∈ b) → a = b := by
  intro a
  induction a with
  | nil =>
    intro b _ _ h
    cases b with
    | nil => rfl
    | cons y b => exact absurd ((h y).2 (by simp)) (by simp)
  | cons x a ih =>
    intro b ha hb h
    cases b with
    | nil => exact absurd ((h x).1 (by simp)) (by simp)
    | cons y b =>
      obtain ⟨a1, a2⟩ := List.pairwise_cons.1 ha
      obtain ⟨b1, b2⟩ := List.pairwise_cons.1 hb
      have e : x = y := by
        have k1 := (h x).1 (by simp)
        have k2 := (h y).2 (by simp)
        rcases List.mem_cons.1 k1 with k1 | k1
        · exact k1
        · rcases List.mem_cons.1 k2 with k2 | k2
          · exact k2.symm
          · have := b1 x k1
            have := a1 y k2
            omega
      subst e
      congr 1
      refine ih b a2 b2 fun z => ?_
      constructor
      · intro hz
        have := a1 z hz
        rcases List.mem_cons.1 ((h z).1 (by simp [hz])) with k | k
        · omega
        · exact k
      · intro hz
        have := b1 z hz
        rcases List.mem_cons.1 ((h z).2 (by simp [hz])) with k | k
        · omega
        · exact k
theorem normL_eq (l r : List Int) (hr : r.Pairwise (· < ·)) (h : ∀ x, x ∈ r ↔ x ∈ l) : normL l = r := by
  obtain ⟨h1, h2⟩ := normL_laws l
  exact rise_eq _ _ h1 hr fun x => (h2 x).trans (h x).symm
end Go.Proofs.YtmphnoabkmoafaaDoor
