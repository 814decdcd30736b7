/- The lists of the law on bounds: plain laws. -/
import Derived.Test.YtgkpdkdkpmkgdaaPlain
namespace Go.Proofs.Ytgkpdkdkpmkgdaa
open Go.RowKit
def upL (f : Int) : Nat → List Int
  | 0 => []
  | k + 1 => upL f k ++ [f + 3 * (k : Int)]
theorem upL_length (f : Int) (k : Nat) : (upL f k).length = k := by
  induction k with
  | zero => rfl
  | succ k ih => simp [upL, ih]
theorem upL_getD (f : Int) (k j : Nat) (h : j < k) : (upL f k).getD j 0 = f + 3 * (j : Int) := by
  induction k with
  | zero => omega
  | succ k ih =>
    by_cases e : j = k
    · subst e
      simp [upL, List.getD, upL_length]
    · have := ih (by omega)
      rw [← this]
      have hj : j < (upL f k).length := by rw [upL_length]; omega
      simp only [upL, List.getD]
      rw [List.getElem?_append_left hj]
theorem upL_mem (f : Int) (k : Nat) (x : Int) : x ∈ upL f k ↔ ∃ j : Nat, j < k ∧ x = f + 3 * (j : Int) := by
  induction k with
  | zero => simp [upL]
  | succ k ih =>
    rw [upL, List.mem_append, ih, List.mem_singleton]
    constructor
    · rintro (⟨j, h, e⟩ | e)
      · exact ⟨j, by omega, e⟩
      · exact ⟨k, by omega, e⟩
    · rintro ⟨j, h, e⟩
      by_cases hj : j = k
      · subst hj; exact .inr e
      · exact .inl ⟨j, by omega, e⟩
theorem upL_rise (f : Int) (k : Nat) : (upL f k).Pairwise (· < ·) := by
  induction k with
  | zero => simp [upL]
  | succ k ih =>
    rw [upL, List.pairwise_append]
    refine ⟨ih, by simp, fun x hx y hy => ?_⟩
    obtain ⟨j, h, e⟩ := (upL_mem f k x).1 hx
    have : y = f + 3 * (k : Int) := by simpa using hy
    omega
theorem upL_rises (f : Int) (n : Nat) (h1 : 1 ≤ f) (h2 : f + 3 * n ≤ 2147483647) : ∀ k, k ≤ n → risesTo (upL f n) k = true := by
  intro k
  induction k with
  | zero => intro _; rfl
  | succ k ih =>
    intro hk
    rw [risesTo, ih (by omega), upL_getD f n k (by omega)]
    rcases Nat.eq_zero_or_pos k with rfl | h0
    · simp; omega
    · rw [upL_getD f n (k - 1) (by omega)]
      simp; omega
theorem upL_set (f : Int) (n : Nat) (h1 : 1 ≤ f) (h2 : f + 3 * n ≤ 2147483647) : setL (upL f n) = decide (n ≤ 16) := by
  unfold setL
  rw [upL_length, upL_rises f n h1 h2 n (Nat.le_refl _)]; rfl
/-- The list with one of its own behind it. -/
def dupL (f : Int) (n k : Nat) : List Int := upL f n ++ [(upL f n).getD k 0]
/-- The list with its ends turned round. -/
def swapL (f : Int) (n : Nat) : List Int := ((upL f n).set 0 ((upL f n).getD (n - 1) 0)).set (n - 1) ((upL f n).getD 0 0)
theorem dup_norm (f : Int) (n k : Nat) (hk : k < n) : normL (dupL f n k) = upL f n := by
  refine normL_eq _ _ (upL_rise f n) fun x => ?_
  rw [dupL, List.mem_append, List.mem_singleton]
  constructor
  · exact fun h => .inl h
  · rintro (h | h)
    · exact h
    · rw [upL_getD f n k hk] at h
      exact (upL_mem f n x).2 ⟨k, hk, h⟩
theorem dup_length (f : Int) (n k : Nat) : (dupL f n k).length = n + 1 := by simp [dupL, upL_length]
theorem swap_length (f : Int) (n : Nat) : (swapL f n).length = n := by simp [swapL, upL_length]
theorem dup_set (f : Int) (n k : Nat) (hk : k < n) : setL (dupL f n k) = false := by
  refine setL_false (k := n) (by rw [dup_length]; omega) ?_
  have e1 : (dupL f n k).getD n 0 = f + 3 * (k : Int) := by
    rw [dupL, upL_getD f n k hk]
    simp [List.getD, upL_length]
  have e2 : (dupL f n k).getD (n - 1) 0 = f + 3 * ((n - 1 : Nat) : Int) := by
    rw [dupL]
    have hj : n - 1 < (upL f n).length := by rw [upL_length]; omega
    have := upL_getD f n (n - 1) (by omega)
    rw [← this]
    simp only [List.getD]
    rw [List.getElem?_append_left hj]
  rw [risesTo, e1, e2]
  simp; omega
theorem swap_getD (f : Int) (n j : Nat) (hn : 2 ≤ n) (hj : j < n) : (swapL f n).getD j 0 = if j = n - 1 then f else if j = 0 then f + 3 * ((n - 1 : Nat) : Int) else f + 3 * (j : Int) := by
  have h0 := upL_getD f n 0 (by omega)
  have h1 := upL_getD f n (n - 1) (by omega)
  have h2 := upL_getD f n j hj
  rw [swapL, h0, h1]
  simp only [List.getD] at h2 ⊢
  by_cases e : j = n - 1
  · subst e
    rw [if_pos rfl, List.getElem?_set_self (by simp [upL_length]; omega)]
    simp
  · rw [if_neg e, List.getElem?_set_ne (by omega)]
    by_cases e0 : j = 0
    · subst e0
      rw [if_pos rfl, List.getElem?_set_self (by simp [upL_length]; omega)]
      rfl
    · rw [if_neg e0, List.getElem?_set_ne (by omega)]
      exact h2
theorem swap_set (f : Int) (n : Nat) (hn : 2 ≤ n) : setL (swapL f n) = false := by
  refine setL_false (k := 1) (by rw [swap_length]; omega) ?_
  have e0 := swap_getD f n 0 hn (by omega)
  have e1 := swap_getD f n 1 hn (by omega)
  rw [if_neg (by omega), if_pos rfl] at e0
  rw [risesTo, e1, show 1 - 1 = 0 from rfl, e0]
  by_cases e : 1 = n - 1
  · rw [if_pos e]; simp; omega
  · rw [if_neg e, if_neg (by omega)]; simp; omega
theorem getD_mem (l : List Int) (j : Nat) (h : j < l.length) : l.getD j 0 ∈ l := by
  simp only [List.getD, List.getElem?_eq_getElem h, Option.getD_some]
  exact List.getElem_mem _
theorem swap_norm (f : Int) (n : Nat) (hn : 2 ≤ n) : normL (swapL f n) = upL f n := by
  refine normL_eq _ _ (upL_rise f n) fun x => ?_
  rw [upL_mem]
  constructor
  · rintro ⟨j, hj, rfl⟩
    by_cases e : j = n - 1
    · have := getD_mem (swapL f n) 0 (by rw [swap_length]; omega)
      rw [swap_getD f n 0 hn (by omega), if_neg (by omega), if_pos rfl, ← e] at this
      exact this
    · by_cases e0 : j = 0
      · have := getD_mem (swapL f n) (n - 1) (by rw [swap_length]; omega)
        rw [swap_getD f n (n - 1) hn (by omega), if_pos rfl] at this
        subst e0
        simpa using this
      · have := getD_mem (swapL f n) j (by rw [swap_length]; omega)
        rw [swap_getD f n j hn hj, if_neg e, if_neg e0] at this
        exact this
  · intro h
    obtain ⟨j, hj, e⟩ := List.getElem_of_mem h
    have hj' : j < n := by rw [swap_length] at hj; exact hj
    have hx : (swapL f n).getD j 0 = x := by simp [List.getD, hj, e]
    rw [swap_getD f n j hn hj'] at hx
    split at hx
    · exact ⟨0, by omega, by omega⟩
    · split at hx
      · exact ⟨n - 1, by omega, hx.symm⟩
      · exact ⟨j, hj', hx.symm⟩
end Go.Proofs.Ytgkpdkdkpmkgdaa
