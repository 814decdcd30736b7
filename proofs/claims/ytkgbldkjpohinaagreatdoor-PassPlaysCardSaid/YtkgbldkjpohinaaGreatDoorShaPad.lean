/- Padding, blocks and the bytes of the sum, as plain Lean. -/
import Derived.Test.YtkgbldkjpohinaaGreatDoorShaSpec
namespace Go.Proofs.YtkgbldkjpohinaaGreatDoor
/-- How many noughts the padding has. -/
def padN (n : Nat) : Nat := (119 - n % 64) % 64
/-- The first k of the eight bytes that tell the length. -/
def lenB (n : Nat) : Nat → List Int
  | 0 => []
  | k + 1 => lenB n k ++ [((n : Int) * 8 / 2 ^ (56 - 8 * k)) % 256]
def padL (l : List Int) : List Int := l ++ [128] ++ List.replicate (padN l.length) 0 ++ lenB l.length 8
/-- The state behind t blocks of the bytes m. -/
def foldH (m : List Int) : Nat → List Int
  | 0 => h8
  | t + 1 => mixL (foldH m t) fun j => m.getD (64 * t + j) 0
/-- The bytes of the first k words. -/
def outB (s : List Int) : Nat → List Int
  | 0 => []
  | k + 1 => outB s k ++ [s.getD k 0 / 16777216 % 256, s.getD k 0 / 65536 % 256, s.getD k 0 / 256 % 256, s.getD k 0 % 256]
/-- SHA-256 of bytes. -/
def shaL (l : List Int) : List Int := outB (foldH (padL l) ((padL l).length / 64)) 8

/-- The bytes, 128 and j noughts. -/
def preL (l : List Int) (j : Nat) : List Int := l ++ [128] ++ List.replicate j 0
theorem preL_length (l : List Int) (j : Nat) : (preL l j).length = l.length + 1 + j := by simp [preL]; omega
theorem preL_succ (l : List Int) (j : Nat) : preL l j ++ [0] = preL l (j + 1) := by simp [preL, List.replicate_succ']
theorem lenB_length (n k : Nat) : (lenB n k).length = k := by
  induction k with
  | zero => rfl
  | succ k ih => simp [lenB, ih]
theorem outB_length (s : List Int) (k : Nat) : (outB s k).length = 4 * k := by
  induction k with
  | zero => rfl
  | succ k ih => simp [outB, ih]; omega
theorem shaL_length (l : List Int) : (shaL l).length = 32 := by rw [shaL, outB_length]
theorem padL_length (l : List Int) : (padL l).length = l.length + 1 + padN l.length + 8 := by
  simp [padL, lenB_length]; omega
theorem padL_eq (l : List Int) : padL l = preL l (padN l.length) ++ lenB l.length 8 := rfl
theorem lenB_octs (n k : Nat) : ∀ x ∈ lenB n k, 0 ≤ x ∧ x < 256 := by
  induction k with
  | zero => intro x hx; cases hx
  | succ k ih =>
    intro x hx
    rcases List.mem_append.1 hx with h | h
    · exact ih x h
    · simp only [List.mem_singleton] at h
      subst h
      exact ⟨Int.emod_nonneg _ (by decide), Int.emod_lt_of_pos _ (by decide)⟩
theorem padL_octs {l : List Int} (h : ∀ x ∈ l, 0 ≤ x ∧ x < 256) : ∀ x ∈ padL l, 0 ≤ x ∧ x < 256 := by
  intro x hx
  simp only [padL, List.mem_append, List.mem_singleton, List.mem_replicate] at hx
  rcases hx with ((hx | rfl) | ⟨_, rfl⟩) | hx
  · exact h x hx
  · decide
  · decide
  · exact lenB_octs _ _ x hx
theorem outB_octs (s : List Int) (k : Nat) : ∀ x ∈ outB s k, 0 ≤ x ∧ x < 256 := by
  induction k with
  | zero => intro x hx; cases hx
  | succ k ih =>
    intro x hx
    rcases List.mem_append.1 hx with h | h
    · exact ih x h
    · simp only [List.mem_cons, List.not_mem_nil, or_false] at h
      rcases h with rfl | rfl | rfl | rfl <;> exact ⟨Int.emod_nonneg _ (by decide), Int.emod_lt_of_pos _ (by decide)⟩
theorem shaL_octs (l : List Int) : ∀ x ∈ shaL l, 0 ≤ x ∧ x < 256 := outB_octs _ _
theorem padL_mod (l : List Int) : (padL l).length % 64 = 0 := by
  rw [padL_length, padN]; omega
theorem foldH_length (m : List Int) (t : Nat) : (foldH m t).length = 8 := by
  induction t with
  | zero => rfl
  | succ t ih => exact mixL_length ih _

end Go.Proofs.YtkgbldkjpohinaaGreatDoor
