/- A slice of whole numbers that came in reads as a list. -/
import Derived.Test.YtgkpdkdkpmkgdaaSome
namespace Go.Proofs.Ytgkpdkdkpmkgdaa
open Go.RowKit
section
variable {w : World} {a : Option Addr} {len cap : Nat} {zs : List Int}
theorem intsAt_row (h : (a = none ∧ len = 0 ∧ cap = 0 ∧ zs = []) ∨ ∃ x, a = some x ∧ len ≤ cap ∧ cap ≤ maxLen ∧ zs.length = cap ∧ (∀ i, i < zs.length → w.cell? (x.add i) = some (.int .i64 (zs.getD i 0))) ∧ ∀ n ∈ zs, (Lit.int .i64 n).wf = true) :
    IntsAt w (.slice a len cap) (zs.take len) := by
  rcases h with ⟨rfl, rfl, rfl, rfl⟩ | ⟨x, rfl, hl, hm, hz, hcell, hwf⟩
  · exact IntsAt.nil w
  · rcases Nat.eq_zero_or_pos len with h0 | h0
    · subst h0
      exact .inl ⟨rfl, some x, cap, rfl, fun h => by cases h⟩
    · have hlen : (zs.take len).length = len := by rw [List.length_take]; omega
      have h1 := hcell 0 (by omega)
      obtain ⟨b, off, spot⟩ := x
      have hs : spot = none ∧ b < w.heap.size := by
        simp only [Addr.add, if_pos] at h1
        unfold World.cell? at h1
        split at h1
        · rename_i heq
          have := (Array.getElem?_eq_some_iff.1 heq).1
          cases spot
          · exact ⟨rfl, this⟩
          · simp at h1
        · cases h1
      obtain ⟨rfl, hb⟩ := hs
      refine .inr ⟨b, off, cap, by rw [hlen], by omega, by omega, hb, fun j hj => ?_⟩
      have := hcell j (by omega)
      rw [Addr.add_mid] at this
      rw [this]
      have hj' : j < len := by omega
      simp [List.getD, hj']
theorem bytes3 : Try.prog.bytesOf 3 = 8 := by kernel_rfl
theorem ints_size {P : Prop} (h : P) (hc : P → len ≤ cap) (hs : cap * Try.prog.bytesOf 3 ≤ reachBytes) : (zs.take len).length ≤ 17592186043904 := by
  have h1 := hc h
  have h2 := List.length_take_le len zs
  rw [bytes3] at hs
  unfold reachBytes at hs
  omega
theorem len_le (h : (a = none ∧ len = 0 ∧ cap = 0 ∧ zs = []) ∨ ∃ x, a = some x ∧ len ≤ cap ∧ cap ≤ maxLen ∧ zs.length = cap ∧ (∀ i, i < zs.length → w.cell? (x.add i) = some (.int .i64 (zs.getD i 0))) ∧ ∀ n ∈ zs, (Lit.int .i64 n).wf = true) : len ≤ cap := by
  rcases h with ⟨rfl, rfl, rfl, rfl⟩ | ⟨x, rfl, hl, _⟩
  · exact Nat.le_refl _
  · exact hl
end
end Go.Proofs.Ytgkpdkdkpmkgdaa
