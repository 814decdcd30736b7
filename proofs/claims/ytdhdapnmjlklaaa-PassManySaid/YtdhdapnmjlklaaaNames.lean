/- The names of the law on many users, and the book that holds the first of them. -/
import Derived.Test.YtdhdapnmjlklaaaBookAwake
namespace Go.Proofs.Ytdhdapnmjlklaaa
open Go.RowKit Go.Maps
def nm (i : Nat) : ByteArray := ⟨#[117]⟩ ++ strOfNums [97 + (i : Int)]
def pw (i : Nat) : ByteArray := ⟨#[112]⟩ ++ nm i
theorem nm_list : ∀ i : Fin 12, (nm i.val).data.toList = [117, 97 + UInt8.ofNat i.val] := by decide
theorem pw_size : ∀ i : Fin 12, (pw i.val).size = 3 := by decide
def nk (i : Nat) : Lit := .string (nm i).data.toList
theorem nm_eq {i : Nat} (h : i < 12) : nm i = ⟨[117, 97 + UInt8.ofNat i].toArray⟩ := by
  have := nm_list ⟨i, h⟩
  simp only at this
  rw [← this]
theorem nm_size {i : Nat} (h : i < 12) : (nm i).size = 2 := by rw [nm_eq h]; rfl
theorem nm_low {i : Nat} (h : i < 12) : Lows (nm i) := by
  rw [nm_eq h]
  have : ∀ j : Fin 12, ∀ x ∈ ([117, 97 + UInt8.ofNat j.val] : List UInt8), 97 ≤ x.toNat ∧ x.toNat ≤ 122 := by decide
  exact lows_of (this ⟨i, h⟩)
theorem nk_ne {i j : Nat} (hi : i < 12) (hj : j < 12) (h : i ≠ j) : nk i ≠ nk j := by
  unfold nk
  rw [nm_list ⟨i, hi⟩, nm_list ⟨j, hj⟩]
  have : ∀ a b : Fin 12, a.val ≠ b.val → ([117, 97 + UInt8.ofNat a.val] : List UInt8) ≠ [117, 97 + UInt8.ofNat b.val] := by decide
  intro e
  exact this ⟨i, hi⟩ ⟨j, hj⟩ h (by simpa only [Lit.string.injEq] using e)
theorem nk_key (i : Nat) : WideAt.IsKeyLit (nk i) := trivial
/-- The users of the first k names. -/
def Dm : Nat → DataW Unit
  | 0 => .map []
  | k + 1 => (Dm k).put (nk k) (entD ⟨#[115]⟩ 0 (hashOf ⟨#[115]⟩ (pw k) 0) ((k : Int) + 1))
/-- The failures of k names behind the ninth. -/
def Fm : Nat → DataW Unit
  | 0 => .map []
  | k + 1 => (Fm k).put (nk (9 + k)) (failD 1 0)
theorem tidy_Dm (k : Nat) : Tidy (Dm k) := by
  induction k with
  | zero => exact tidy_empty
  | succ k ih => exact ih.put (nk_key k) _
theorem tidy_Fm (k : Nat) : Tidy (Fm k) := by
  induction k with
  | zero => exact tidy_empty
  | succ k ih => exact ih.put (nk_key _) _
theorem has_Dm {i : Nat} (hi : i < 12) : ∀ k, k ≤ 12 → Maps.has (Dm k) (nk i) = decide (i < k) := by
  intro k
  induction k with
  | zero => intro _; simp [Dm, Maps.has]
  | succ k ih =>
    intro hk
    by_cases h : i = k
    · subst h
      rw [Dm, has_put_same (tidy_Dm _).isMap (nk_key _)]; simp
    · rw [Dm, has_put_other (nk_ne hi (by omega) h), ih (by omega)]
      exact decide_eq_decide.2 (by omega)
theorem at_Dm {i : Nat} (hi : i < 12) : ∀ k, k ≤ 12 → i < k → (Dm k).atKey (nk i) noU = entD ⟨#[115]⟩ 0 (hashOf ⟨#[115]⟩ (pw i) 0) ((i : Int) + 1) := by
  intro k
  induction k with
  | zero => intro _ h; omega
  | succ k ih =>
    intro hk h
    by_cases e : i = k
    · subst e
      rw [Dm, atKey_put_same (tidy_Dm _).isMap (nk_key _)]
    · rw [Dm, atKey_put_other (nk_ne hi (by omega) e), ih (by omega) (by omega)]
theorem size_Dm : ∀ k, k ≤ 12 → Maps.size (Dm k) = k := by
  intro k
  induction k with
  | zero => intro _; rfl
  | succ k ih =>
    intro hk
    rw [Dm, size_put (tidy_Dm k), has_Dm (by omega) k (by omega), ih (by omega)]
    simp
theorem has_Fm {i : Nat} (hi : i < 12) : ∀ k, k ≤ 3 → Maps.has (Fm k) (nk i) = decide (9 ≤ i ∧ i < 9 + k) := by
  intro k
  induction k with
  | zero => intro _; simp [Fm, Maps.has]
  | succ k ih =>
    intro hk
    by_cases h : i = 9 + k
    · subst h
      rw [Fm, has_put_same (tidy_Fm _).isMap (nk_key _)]; simp
    · rw [Fm, has_put_other (nk_ne hi (by omega) h), ih (by omega)]
      exact decide_eq_decide.2 (by omega)
theorem size_Fm : ∀ k, k ≤ 3 → Maps.size (Fm k) = k := by
  intro k
  induction k with
  | zero => intro _; rfl
  | succ k ih =>
    intro hk
    rw [Fm, size_put (tidy_Fm k), has_Fm (by omega) k (by omega), ih (by omega)]
    simp
def codeAt (i : Nat) : Int := if i < 9 then 0 else 65
theorem add_code {i : Nat} (hi : i < 12) : addCode (Dm (min i 9)) (nm i) = codeAt i := by
  unfold addCode codeAt
  rw [show (Lit.string (nm i).data.toList) = nk i from rfl, has_Dm hi _ (by omega), size_Dm _ (by omega)]
  by_cases h : i < 9
  · rw [if_neg (by simp; omega), if_neg (by omega), if_pos h]
  · rw [if_neg (by simp; omega), if_pos (by omega), if_neg h]
theorem add_to {i : Nat} (hi : i < 12) : addTo (Dm (min i 9)) (nm i) ⟨#[115]⟩ (pw i) 0 ((i : Int) + 1) = Dm (min (i + 1) 9) := by
  unfold addTo
  rw [add_code hi]
  unfold codeAt
  by_cases h : i < 9
  · rw [if_pos h, if_pos rfl, show min i 9 = i by omega, show min (i + 1) 9 = i + 1 by omega, Dm]
    rfl
  · rw [if_neg h, if_neg (by decide), show min i 9 = 9 by omega, show min (i + 1) 9 = 9 by omega]
theorem add_there {j n : Nat} (hj : j < n) (hn : n ≤ 12) (h9 : j < 9) : addCode (Dm (min n 9)) (nm j) = 64 := by
  unfold addCode
  rw [show (Lit.string (nm j).data.toList) = nk j from rfl, has_Dm (by omega) _ (by omega), if_pos (by simp; omega)]
end Go.Proofs.Ytdhdapnmjlklaaa
