/- label.Set, label.May: whether a list is a set of tags. -/
import Derived.Test.YtmphnoabkmoafaaDoorInts
namespace Go.Proofs.YtmphnoabkmoafaaDoor
open Go.RowKit
/-- The first k of a list are tags in rising order. -/
def risesTo (l : List Int) : Nat → Bool
  | 0 => true
  | k + 1 => risesTo l k && (decide (1 ≤ l.getD k 0) && decide (l.getD k 0 ≤ 2147483647) && (decide (k = 0) || decide (l.getD (k - 1) 0 < l.getD k 0)))
def setL (l : List Int) : Bool := risesTo l l.length && decide (l.length ≤ 16)
theorem risesTo_mono (l : List Int) {k : Nat} (h : risesTo l k = false) : ∀ n, k ≤ n → risesTo l n = false := by
  intro n hn
  induction n with
  | zero => obtain rfl : k = 0 := by omega
            exact h
  | succ n ih =>
    rcases Nat.lt_or_ge n k with h1 | h1
    · obtain rfl : k = n + 1 := by omega
      exact h
    · rw [risesTo, ih h1]; rfl
theorem IntsAt.cells {w : World} {v : Value} {l : List Int} (h : IntsAt w v l) (h0 : 0 < l.length) : ∃ g off c, v = .slice (some ⟨g, off, none⟩) l.length c ∧ ∀ j, j < l.length → w.cell? ⟨g, off + j, none⟩ = some (.int .i64 (l.getD j 0)) := by
  rcases h with ⟨rfl, _⟩ | ⟨g, off, c, hv, _, _, _, hc⟩
  · simp at h0
  · exact ⟨g, off, c, hv, hc⟩
theorem setL_false {l : List Int} {k : Nat} (hk : k < l.length) (h : risesTo l (k + 1) = false) : setL l = false := by
  unfold setL
  rw [risesTo_mono l h _ hk]; rfl
set_option maxRecDepth 100000 in
set_option maxHeartbeats 2000000 in
theorem set_any (v : Value) (l : List Int) (w : World) (h : IntsAt w v l) (hl : l.length ≤ 4611686018427387904) :
    Calls Tryd.prog 43 #[v] w fun e w' => e = .returned (.bool (setL l)) ∧ w' = w := by
  obtain ⟨ao, c, rfl⟩ := h.shape
  go_enter Tryd.func43, Tryd.ntmps43
  go_wp2
  go_loop [7] (fun u => ∃ k : Nat, k ≤ l.length ∧ u = .int .i64 k ∧ risesTo l k = true) (fun u => l.length - (intOf u).toNat)
  case atStart => exact ⟨0, by omega, rfl, rfl⟩
  case round =>
    obtain ⟨k, hk, rfl, hr⟩ := hrel
    by_cases hlt : k < l.length
    · obtain ⟨g, off, c', hv, hcell⟩ := h.cells (by omega)
      obtain ⟨rfl, rfl⟩ : ao = some ⟨g, off, none⟩ ∧ c = c' := by simpa using hv
      have c0 := hcell k hlt
      obtain ⟨x, hx⟩ : ∃ x, x = l.getD k 0 := ⟨_, rfl⟩
      rw [← hx] at c0
      obtain ⟨n, hn⟩ : ∃ n, n = l.length := ⟨_, rfl⟩
      have hstep : risesTo l (k + 1) = (decide (1 ≤ x) && decide (x ≤ 2147483647) && (decide (k = 0) || decide (l.getD (k - 1) 0 < x))) := by
        rw [risesTo, hr, hx]; rfl
      rcases Nat.eq_zero_or_pos k with rfl | hk0
      · rw [Nat.add_zero] at c0
        have Hs := Lib.hid hstep
        have Hx := Lib.hid hx
        clear hcell h hv hr hstep hx
        rw [← hn] at hl hlt ⊢
        have Hn := Lib.hid hn
        clear hn hk
        go_wp2
        all_goals first
          | (go_ret; refine ⟨?_, rfl⟩; rw [setL_false (k := 0) (by have := Hn.out; omega) (by rw [Hs.out]; simp; omega)]; rfl)
          | (refine ⟨⟨1, by omega, rfl, ?_⟩, ?_⟩; (rw [Hs.out]; simp; omega); (simp [intOf]; omega))
      · obtain ⟨j, rfl⟩ : ∃ j, k = j + 1 := ⟨k - 1, by omega⟩
        have c1 := hcell j (by omega)
        obtain ⟨y, hy⟩ : ∃ y, y = l.getD j 0 := ⟨_, rfl⟩
        rw [← hy] at c1
        rw [show j + 1 - 1 = j from rfl, ← hy] at hstep
        have Hs := Lib.hid hstep
        have e1 : wrap64 ((j : Int) + 1 - 1) = j := by unfold wrap64; omega
        clear hcell h hv hr hstep hx hy
        rw [← hn] at hl hlt ⊢
        have Hn := Lib.hid hn
        clear hn hk
        go_wp2
        all_goals first
          | (go_ret; refine ⟨?_, rfl⟩; rw [setL_false (k := j + 1) (by have := Hn.out; omega) (by rw [Hs.out]; simp; omega)]; rfl)
          | (refine ⟨⟨j + 2, by omega, by go_num, ?_⟩, ?_⟩; (rw [Hs.out]; simp; omega); (simp [intOf]; omega))
    · obtain rfl : k = l.length := by omega
      have hs : setL l = decide (l.length ≤ 16) := by unfold setL; rw [hr]; rfl
      have Hs := Lib.hid hs
      obtain ⟨n, hn⟩ : ∃ n, n = l.length := ⟨_, rfl⟩
      clear hs hr h
      rw [← hn] at Hs hl ⊢
      clear hn
      go_wp2
      go_ret
      rw [Hs.out]
      exact ⟨by simp; omega, rfl⟩
end Go.Proofs.YtmphnoabkmoafaaDoor
