/- What the second form's bound gives. -/
import Derived.Test.YtdhdapnmjlklaaaRows
import Derived.WalkKit
import Derived.ChangeSlices
import Derived.Test.YtdhdapnmjlklaaaBytes
namespace Go.Proofs.Ytdhdapnmjlklaaa
open Go.ChangeShapes Go.RowKit
theorem bulk_append {H : Type} (l r : List (DataW H)) : Rows.uptoBulkAll (l ++ r) = Rows.uptoBulkAll l + Rows.uptoBulkAll r := by
  induction l with
  | nil => simp [Rows.uptoBulkAll]
  | cons x l ih => simp only [List.cons_append, Rows.uptoBulkAll, ih]; omega
theorem bulk_lits {H : Type} (k : IntKind) (zs : List Int) : Rows.uptoBulkAll (H := H) (lits k zs) = zs.length := by
  induction zs with
  | nil => simp [lits, Rows.uptoBulkAll]
  | cons x l ih =>
    have e : lits (H := H) k (x :: l) = .lit (.int k x) :: lits k l := rfl
    rw [e, Rows.uptoBulkAll, ih, List.length_cons, Rows.uptoBulk]
    · omega
    · intro b h; cases h
theorem bulk_all {H : Type} {l : List (DataW H)} (hk : Rows.uptoSmall H l = true) : Rows.uptoBulkAll l ≤ 1048576 := of_decide_eq_true hk
section
variable {w : World} {a : Option Addr} {len cap : Nat} {zs : List Int}
theorem bytesAt_row (h : (a = none ∧ len = 0 ∧ cap = 0 ∧ zs = []) ∨ ∃ x, a = some x ∧ len ≤ cap ∧ cap ≤ maxLen ∧ zs.length = cap ∧ (∀ i, i < zs.length → w.cell? (x.add i) = some (.int .u8 (zs.getD i 0))) ∧ ∀ n ∈ zs, (Lit.int .u8 n).wf = true) :
    BytesAt w (.slice a len cap) (zs.take len) := by
  rcases h with ⟨rfl, rfl, rfl, rfl⟩ | ⟨x, rfl, hl, hm, hz, hcell, hwf⟩
  · exact BytesAt.nil w
  · rcases Nat.eq_zero_or_pos len with h0 | h0
    · subst h0
      exact .inl ⟨rfl, some x, cap, rfl, fun h => by cases h⟩
    · have hlen : (zs.take len).length = len := by rw [List.length_take]; omega
      have h1 := hcell 0 (by omega)
      obtain ⟨b, off, spot⟩ := x
      have hs : spot = none ∧ b < w.heap.size := by
        simp only [Addr.add, if_pos] at h1
        unfold World.cell? at h1
        split at h1
        · rename_i heq
          have := (Array.getElem?_eq_some_iff.1 heq).1
          cases spot
          · exact ⟨rfl, this⟩
          · simp at h1
        · cases h1
      obtain ⟨rfl, hb⟩ := hs
      refine .inr ⟨b, off, cap, by rw [hlen], by omega, by omega, hb, fun j hj => ?_⟩
      have := hcell j (by omega)
      rw [Addr.add_mid] at this
      rw [this]
      have hj' : j < len := by omega
      simp [List.getD, hj']
theorem octs_row (h : (a = none ∧ len = 0 ∧ cap = 0 ∧ zs = []) ∨ ∃ x, a = some x ∧ len ≤ cap ∧ cap ≤ maxLen ∧ zs.length = cap ∧ (∀ i, i < zs.length → w.cell? (x.add i) = some (.int .u8 (zs.getD i 0))) ∧ ∀ n ∈ zs, (Lit.int .u8 n).wf = true) : Octs (zs.take len) := by
  rcases h with ⟨rfl, rfl, rfl, rfl⟩ | ⟨x, rfl, hl, hm, hz, hcell, hwf⟩
  · intro y hy; cases hy
  · intro y hy
    have := hwf y (List.mem_of_mem_take hy)
    simp [Lit.wf, IntKind.min, IntKind.max, IntKind.signed, IntKind.bits] at this
    omega
theorem len_row (h : (a = none ∧ len = 0 ∧ cap = 0 ∧ zs = []) ∨ ∃ x, a = some x ∧ len ≤ cap ∧ cap ≤ maxLen ∧ zs.length = cap ∧ (∀ i, i < zs.length → w.cell? (x.add i) = some (.int .u8 (zs.getD i 0))) ∧ ∀ n ∈ zs, (Lit.int .u8 n).wf = true) : (zs.take len).length = len ∧ len ≤ cap := by
  rcases h with ⟨rfl, rfl, rfl, rfl⟩ | ⟨x, rfl, hl, hm, hz, hcell, hwf⟩
  · exact ⟨rfl, Nat.le_refl _⟩
  · exact ⟨by rw [List.length_take]; omega, hl⟩
end
end Go.Proofs.Ytdhdapnmjlklaaa
