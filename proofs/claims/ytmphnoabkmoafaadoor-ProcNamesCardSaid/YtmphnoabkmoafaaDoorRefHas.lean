/- The reference's Has and Sub. -/
import Derived.Test.YtmphnoabkmoafaaDoorSet
namespace Go.Proofs.YtmphnoabkmoafaaDoor
open Go.RowKit
theorem mem_take_succ {l : List Int} {k : Nat} (hk : k < l.length) (x : Int) : x ∈ l.take (k + 1) ↔ x ∈ l.take k ∨ x = l.getD k 0 := by
  have e : l.take (k + 1) = l.take k ++ [l.getD k 0] := by
    rw [List.take_add_one]; simp [List.getD, hk]
  rw [e, List.mem_append, List.mem_singleton]
set_option maxRecDepth 100000 in
set_option maxHeartbeats 800000 in
theorem has_any (v : Value) (l : List Int) (t : Int) (w : World) (h : IntsAt w v l) (hl : l.length ≤ 1000000000000000) :
    Calls Tryd.prog 12 #[v, .int .i64 t] w fun e w' => e = .returned (.bool (decide (t ∈ l))) ∧ w' = w := by
  obtain ⟨ao, c, rfl⟩ := h.shape
  obtain ⟨n, hn⟩ : ∃ n, n = l.length := ⟨_, rfl⟩
  have Hn := Lib.hid hn
  have H := Lib.hid h
  clear h
  rw [← hn] at hl ⊢
  have H' : Hid (IntsAt w (.slice ao n c) l) := by rw [hn]; exact H.out
  clear H hn
  go_enter Tryd.func12, Tryd.ntmps12
  go_wp2
  go_loop [5] (fun u => ∃ k : Nat, k ≤ n ∧ u = .int .i64 k ∧ ¬ t ∈ l.take k) (fun u => n - (intOf u).toNat)
  case atStart => exact ⟨0, by omega, rfl, by simp⟩
  case round =>
    obtain ⟨k, hk, rfl, hnot⟩ := hrel
    by_cases hlt : k < n
    · have hia := H'.out
      rw [Hn.out] at hia
      obtain ⟨g, off, c', hv, hcell⟩ := hia.cells (by have := Hn.out; omega)
      obtain ⟨rfl, rfl⟩ : ao = some ⟨g, off, none⟩ ∧ c = c' := by simpa using hv
      have c0 := hcell k (by have := Hn.out; omega)
      obtain ⟨x, hx⟩ : ∃ x, x = l.getD k 0 := ⟨_, rfl⟩
      rw [← hx] at c0
      have Hx : Hid (t ∈ l.take (k + 1) ↔ t ∈ l.take k ∨ t = x) := by rw [hx]; exact mem_take_succ (by have := Hn.out; omega) t
      have Hin : Hid (x ∈ l) := by
        have hkl : k < l.length := by have := Hn.out; omega
        show x ∈ l
        rw [hx]
        simp only [List.getD, List.getElem?_eq_getElem hkl, Option.getD_some]
        exact List.getElem_mem _
      have Hnot := Lib.hid hnot
      clear hia hcell hv hx hnot H'
      by_cases hxt : x = t
      · have Hm : Hid (decide (t ∈ l) = true) := decide_eq_true (by rw [← hxt]; exact Hin.out)
        have hb : (x == t) = true := by simp [hxt]
        have hb2 : decide (x = t) = true := by simp [hxt]
        clear hxt
        go_wp2
        go_ret
        exact ⟨by rw [Hm.out]; rfl, rfl⟩
      · have hb : (x == t) = false := by simp [hxt]
        have hb2 : decide (x = t) = false := by simp [hxt]
        have Hxt := Lib.hid hxt
        clear hxt
        go_wp2
        refine ⟨⟨k + 1, by omega, by go_num, ?_⟩, by simp [intOf]; omega⟩
        rw [Hx.out]
        rintro (h | h)
        · exact Hnot.out h
        · exact Hxt.out h.symm
    · obtain rfl : k = n := by omega
      have Hm : Hid (decide (t ∈ l) = false) := decide_eq_false (by rw [List.take_of_length_le (by have := Hn.out; omega)] at hnot; exact hnot)
      clear hnot H'
      go_wp2
      go_ret
      exact ⟨by rw [Hm.out]; rfl, rfl⟩
end Go.Proofs.YtmphnoabkmoafaaDoor
