/- Sets that hold the same are one: a plain law. -/
import Derived.Test.YtmphnoabkmoafaaDoorOrderL
namespace Go.Proofs.YtmphnoabkmoafaaDoor
theorem rises_pair (l : List Int) : ∀ k, k ≤ l.length → risesTo l k = true → (l.take k).Pairwise (· < ·) ∧ ∀ x ∈ l.take k, x ≤ l.getD (k - 1) 0 := by
  intro k
  induction k with
  | zero => intro _ _; simp
  | succ k ih =>
    intro hk h
    rw [risesTo] at h
    simp only [Bool.and_eq_true, Bool.or_eq_true, decide_eq_true_eq] at h
    obtain ⟨h1, h2⟩ := ih (by omega) h.1
    have hkl : k < l.length := by omega
    have e : l.take (k + 1) = l.take k ++ [l.getD k 0] := by
      rw [List.take_add_one]; simp [List.getD, hkl]
    have lt : ∀ x ∈ l.take k, x < l.getD k 0 := by
      intro x hx
      rcases h.2.2 with h0 | h0
      · subst h0; simp at hx
      · have := h2 x hx; omega
    rw [e, show k + 1 - 1 = k from rfl]
    refine ⟨?_, ?_⟩
    · rw [List.pairwise_append]
      exact ⟨h1, by simp, fun x hx y hy => by rw [List.mem_singleton.1 hy]; exact lt x hx⟩
    · intro x hx
      rcases List.mem_append.1 hx with hx | hx
      · have := lt x hx; omega
      · rw [List.mem_singleton.1 hx]; omega
theorem setL_rise {l : List Int} (h : setL l = true) : l.Pairwise (· < ·) := by
  unfold setL at h
  simp only [Bool.and_eq_true] at h
  have := (rises_pair l l.length (Nat.le_refl _) h.1).1
  rwa [List.take_length] at this
theorem same_sets {a b : List Int} (ha : setL a = true) (hb : setL b = true) : (subL a b && subL b a) = decide (a = b) := by
  rw [Bool.eq_iff_iff]
  simp only [Bool.and_eq_true, subL_iff, decide_eq_true_eq]
  constructor
  · rintro ⟨h1, h2⟩
    exact rise_eq _ _ (setL_rise ha) (setL_rise hb) fun x => ⟨h1 x, h2 x⟩
  · rintro rfl
    exact ⟨fun _ h => h, fun _ h => h⟩
theorem same_labels {a b c d : List Int} (ha : setL a = true) (hb : setL b = true) (hc : setL c = true) (hd : setL d = true) : (subL a c && subL c a && subL b d && subL d b) = (decide (a = c) && decide (b = d)) := by
  rw [← same_sets ha hc, ← same_sets hb hd]
  cases subL a c <;> cases subL c a <;> cases subL b d <;> cases subL d b <;> rfl
end Go.Proofs.YtmphnoabkmoafaaDoor
