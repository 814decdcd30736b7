/- What is in order, each once: plain laws. Flowing is an order: plain laws. Changes of labels: plain laws. Sets that hold the same are one: a plain law. The reference's Has and Sub. One import for all that is turned from the labels' seat. -/
import Derived.Test.YtmphnoabkmoafaaGreatDoorM6
import Derived.Test.YtmphnoabkmoafaaGreatDoorM7
import Derived.Test.YtmphnoabkmoafaaGreatDoorM5
import Derived.Test.YtmphnoabkmoafaaGreatDoorM2
import Derived.Test.YtmphnoabkmoafaaGreatDoorM8
import Derived.Test.YtmphnoabkmoafaaGreatDoorM9
namespace Go.Proofs.YtmphnoabkmoafaaGreatDoor
open Go.RowKit Go.Lib
variable {uu0 : Unit} [Base uu0]
theorem get_bang (l : List Int) (j : Nat) (h : j < l.length) : l.toArray[j]! = l[j] := by simp [getElem!_pos, h]
theorem compact_laws (l : List Int) (hs : ∀ i j, i ≤ j → j < l.length → l.toArray[i]! ≤ l.toArray[j]!) : ∀ m, m ≤ l.length →
    (compactUpTo l.toArray m).Pairwise (· < ·) ∧ (∀ x ∈ compactUpTo l.toArray m, ∃ j, j < m ∧ l.toArray[j]! = x) ∧ (∀ j, j < m → l.toArray[j]! ∈ compactUpTo l.toArray m) := by
  intro m
  induction m with
  | zero => intro _; simp [compactUpTo]
  | succ m ih =>
    intro hm
    obtain ⟨h1, h2, h3⟩ := ih (by omega)
    rw [compactUpTo_succ]
    by_cases hk : keeps l.toArray m = true
    · rw [if_pos hk]
      refine ⟨?_, ?_, ?_⟩
      · rw [List.pairwise_append]
        refine ⟨h1, by simp, fun x hx y hy => ?_⟩
        obtain rfl : y = l.toArray[m]! := by simpa using hy
        obtain ⟨j, hj, rfl⟩ := h2 x hx
        have k1 : m = 0 ∨ l.toArray[m]! ≠ l.toArray[m - 1]! := by simpa only [keeps, decide_eq_true_eq] using hk
        have k2 := hs j (m - 1) (by omega) (by omega)
        have k3 := hs (m - 1) m (by omega) (by omega)
        rcases k1 with k1 | k1
        · omega
        · have : l.toArray[m - 1]! ≠ l.toArray[m]! := fun e => k1 e.symm
          omega
      · intro x hx
        rcases List.mem_append.1 hx with h | h
        · obtain ⟨j, hj, e⟩ := h2 x h
          exact ⟨j, by omega, e⟩
        · obtain rfl : x = l.toArray[m]! := by simpa using h
          exact ⟨m, by omega, rfl⟩
      · intro j hj
        rcases Nat.lt_or_ge j m with h | h
        · exact List.mem_append.2 (.inl (h3 j h))
        · obtain rfl : j = m := by omega
          exact List.mem_append.2 (.inr (by simp))
    · rw [if_neg hk, List.append_nil]
      have k1 : ¬ (m = 0 ∨ l.toArray[m]! ≠ l.toArray[m - 1]!) := by simpa only [keeps, decide_eq_true_eq] using hk
      refine ⟨h1, fun x hx => ?_, fun j hj => ?_⟩
      · obtain ⟨j, hj, e⟩ := h2 x hx
        exact ⟨j, by omega, e⟩
      · rcases Nat.lt_or_ge j m with h | h
        · exact h3 j h
        · obtain rfl : j = m := by omega
          have e : l.toArray[j]! = l.toArray[j - 1]! := Classical.byContradiction fun h => k1 (.inr h)
          rw [e]
          exact h3 (j - 1) (by omega)
theorem sortL_sorted (l : List Int) : (sortL l).Pairwise (· ≤ ·) := by
  have := List.pairwise_mergeSort (le := fun x y : Int => decide (x ≤ y)) (fun a b c h1 h2 => by simp at *; omega) (fun a b => by simp; omega) l
  exact this.imp (fun h => by simpa using h)
theorem normL_laws (l : List Int) : (normL l).Pairwise (· < ·) ∧ ∀ x, x ∈ normL l ↔ x ∈ l := by
  have hs : ∀ i j, i ≤ j → j < (sortL l).length → (sortL l).toArray[i]! ≤ (sortL l).toArray[j]! := by
    intro i j hij hj
    rw [get_bang _ _ (by omega), get_bang _ _ hj]
    rcases Nat.lt_or_ge i j with h | h
    · exact List.pairwise_iff_getElem.1 (sortL_sorted l) i j (by omega) hj h
    · obtain rfl : i = j := by omega
      omega
  obtain ⟨h1, h2, h3⟩ := compact_laws (sortL l) hs (sortL l).length (Nat.le_refl _)
  refine ⟨h1, fun x => ?_⟩
  have hp : x ∈ sortL l ↔ x ∈ l := (List.mergeSort_perm l _).mem_iff
  rw [← hp]
  constructor
  · intro h
    obtain ⟨j, hj, rfl⟩ := h2 x h
    rw [get_bang _ _ hj]
    exact List.getElem_mem _
  · intro h
    obtain ⟨j, hj, rfl⟩ := List.getElem_of_mem h
    have := h3 j hj
    rw [get_bang _ _ hj] at this
    exact this
theorem rise_eq : ∀ (a b : List Int), a.Pairwise (· < ·) → b.Pairwise (· < ·) → (∀ x, x ∈ a ↔ x ∈ b) → a = b := by
  intro a
  induction a with
  | nil =>
    intro b _ _ h
    cases b with
    | nil => rfl
    | cons y b => exact absurd ((h y).2 (by simp)) (by simp)
  | cons x a ih =>
    intro b ha hb h
    cases b with
    | nil => exact absurd ((h x).1 (by simp)) (by simp)
    | cons y b =>
      obtain ⟨a1, a2⟩ := List.pairwise_cons.1 ha
      obtain ⟨b1, b2⟩ := List.pairwise_cons.1 hb
      have e : x = y := by
        have k1 := (h x).1 (by simp)
        have k2 := (h y).2 (by simp)
        rcases List.mem_cons.1 k1 with k1 | k1
        · exact k1
        · rcases List.mem_cons.1 k2 with k2 | k2
          · exact k2.symm
          · have := b1 x k1
            have := a1 y k2
            omega
      subst e
      congr 1
      refine ih b a2 b2 fun z => ?_
      constructor
      · intro hz
        have := a1 z hz
        rcases List.mem_cons.1 ((h z).1 (by simp [hz])) with k | k
        · omega
        · exact k
      · intro hz
        have := b1 z hz
        rcases List.mem_cons.1 ((h z).2 (by simp [hz])) with k | k
        · omega
        · exact k
theorem normL_eq (l r : List Int) (hr : r.Pairwise (· < ·)) (h : ∀ x, x ∈ r ↔ x ∈ l) : normL l = r := by
  obtain ⟨h1, h2⟩ := normL_laws l
  exact rise_eq _ _ h1 hr fun x => (h2 x).trans (h x).symm
end Go.Proofs.YtmphnoabkmoafaaGreatDoor
namespace Go.Proofs.YtmphnoabkmoafaaGreatDoor
variable {uu0 : Unit} [Base uu0]
theorem subL_iff {a b : List Int} : subL a b = true ↔ ∀ x ∈ a, x ∈ b := by unfold subL; simp
theorem subL_refl (a : List Int) : subL a a = true := subL_iff.2 fun _ h => h
theorem subL_trans {a b c : List Int} (h1 : subL a b = true) (h2 : subL b c = true) : subL a c = true := subL_iff.2 fun x h => subL_iff.1 h2 x (subL_iff.1 h1 x h)
def flowL (a b c d : List Int) : Bool := subL a c && subL d b
theorem flow_refl (a b : List Int) : flowL a b a b = true := by unfold flowL; rw [subL_refl, subL_refl]; rfl
theorem flow_trans {a b c d e f : List Int} (h1 : flowL a b c d = true) (h2 : flowL c d e f = true) : flowL a b e f = true := by
  unfold flowL at *
  simp only [Bool.and_eq_true] at *
  exact ⟨subL_trans h1.1 h2.1, subL_trans h2.2 h1.2⟩
theorem flow_same (a b c d : List Int) : (subL a c && subL c a && subL b d && subL d b) = (flowL a b c d && flowL c d a b) := by
  unfold flowL
  cases subL a c <;> cases subL c a <;> cases subL b d <;> cases subL d b <;> rfl
theorem joinL_mem {a b : List Int} (h : joinOk a b = true) (x : Int) : x ∈ joinL a b ↔ x ∈ a ∨ x ∈ b := by
  unfold joinOk at h
  simp only [Bool.and_eq_true] at h
  unfold joinL normV
  rw [h.1.1, h.1.2, h.2]
  simp only [Bool.and_true, if_true]
  rw [(normL_laws _).2, List.mem_append]
end Go.Proofs.YtmphnoabkmoafaaGreatDoor
namespace Go.Proofs.YtmphnoabkmoafaaGreatDoor
set_option linter.unusedVariables false
variable {uu0 : Unit} [Base uu0]
def changeL (a b c d p m : List Int) : Bool := setL c && setL d && safeL a c p m && safeL b d p m
theorem safe_iff {a b p m : List Int} : safeL a b p m = true ↔ (∀ x ∈ b, x ∈ a ∨ x ∈ p) ∧ (∀ x ∈ a, x ∈ b ∨ x ∈ m) := by
  unfold safeL lessL
  simp only [Bool.and_eq_true, subL_iff, List.mem_filter, Bool.not_eq_true', decide_eq_false_iff_not]
  constructor
  · rintro ⟨h1, h2⟩
    exact ⟨fun x h => (Classical.em (x ∈ a)).imp_right fun k => h1 x ⟨h, k⟩, fun x h => (Classical.em (x ∈ b)).imp_right fun k => h2 x ⟨h, k⟩⟩
  · rintro ⟨h1, h2⟩
    exact ⟨fun x ⟨h, k⟩ => (h1 x h).resolve_left k, fun x ⟨h, k⟩ => (h2 x h).resolve_left k⟩
theorem safe_turn (a b p m : List Int) : safeL a b p m = safeL b a m p := by unfold safeL; rw [Bool.and_comm]
theorem safe_self (a p m : List Int) : safeL a a p m = true := safe_iff.2 ⟨fun _ h => .inl h, fun _ h => .inl h⟩
theorem safe_mono {a b p m p' m' : List Int} (hp : ∀ x ∈ p, x ∈ p') (hm : ∀ x ∈ m, x ∈ m') (h : safeL a b p m = true) : safeL a b p' m' = true := by
  rw [safe_iff] at *
  exact ⟨fun x k => (h.1 x k).imp_right (hp x), fun x k => (h.2 x k).imp_right (hm x)⟩
theorem change_turn {a b c d p m : List Int} (ha : setL a = true) (hb : setL b = true) (hc : setL c = true) (hd : setL d = true) : changeL a b c d p m = changeL c d a b m p := by
  unfold changeL
  rw [ha, hb, hc, hd, safe_turn a c, safe_turn b d]
theorem change_self {a b p m : List Int} (ha : setL a = true) (hb : setL b = true) : changeL a b a b p m = true := by
  unfold changeL
  rw [ha, hb, safe_self, safe_self]; rfl
theorem change_mono {a b c d p m p' m' : List Int} (hp : ∀ x ∈ p, x ∈ p') (hm : ∀ x ∈ m, x ∈ m') (h : changeL a b c d p m = true) : changeL a b c d p' m' = true := by
  unfold changeL at *
  simp only [Bool.and_eq_true] at *
  exact ⟨⟨h.1.1, safe_mono hp hm h.1.2⟩, safe_mono hp hm h.2⟩
theorem within_left {p m p' m' : List Int} (h : (joinOk p p' && joinOk m m') = true) : (subL p (joinL p p') && subL m (joinL m m')) = true := by
  simp only [Bool.and_eq_true] at h ⊢
  exact ⟨subL_iff.2 fun x k => (joinL_mem h.1 x).2 (.inl k), subL_iff.2 fun x k => (joinL_mem h.2 x).2 (.inl k)⟩
theorem within_right {p m p' m' : List Int} (h : (joinOk p p' && joinOk m m') = true) : (subL p' (joinL p p') && subL m' (joinL m m')) = true := by
  simp only [Bool.and_eq_true] at h ⊢
  exact ⟨subL_iff.2 fun x k => (joinL_mem h.1 x).2 (.inr k), subL_iff.2 fun x k => (joinL_mem h.2 x).2 (.inr k)⟩
theorem change_more {a b c d p m p' m' : List Int} (hok : (joinOk p p' && joinOk m m') = true) (h : changeL a b c d p m = true) : changeL a b c d (joinL p p') (joinL m m') = true := by
  simp only [Bool.and_eq_true] at hok
  exact change_mono (fun x k => (joinL_mem hok.1 x).2 (.inl k)) (fun x k => (joinL_mem hok.2 x).2 (.inl k)) h
theorem lessL_mem {a b : List Int} {x : Int} : x ∈ lessL a b ↔ x ∈ a ∧ ¬ x ∈ b := by unfold lessL; simp
theorem less_within (p m p' m' : List Int) : (subL (lessL p p') p && subL (lessL m m') m) = true := by
  simp only [Bool.and_eq_true, subL_iff]
  exact ⟨fun x h => (lessL_mem.1 h).1, fun x h => (lessL_mem.1 h).1⟩
theorem change_less {a b c d p m p' m' : List Int} (h : changeL a b c d (lessL p p') (lessL m m') = true) : changeL a b c d p m = true :=
  change_mono (fun x k => (lessL_mem.1 k).1) (fun x k => (lessL_mem.1 k).1) h
end Go.Proofs.YtmphnoabkmoafaaGreatDoor
namespace Go.Proofs.YtmphnoabkmoafaaGreatDoor
variable {uu0 : Unit} [Base uu0]
theorem rises_pair (l : List Int) : ∀ k, k ≤ l.length → risesTo l k = true → (l.take k).Pairwise (· < ·) ∧ ∀ x ∈ l.take k, x ≤ l.getD (k - 1) 0 := by
  intro k
  induction k with
  | zero => intro _ _; simp
  | succ k ih =>
    intro hk h
    rw [risesTo] at h
    simp only [Bool.and_eq_true, Bool.or_eq_true, decide_eq_true_eq] at h
    obtain ⟨h1, h2⟩ := ih (by omega) h.1
    have hkl : k < l.length := by omega
    have e : l.take (k + 1) = l.take k ++ [l.getD k 0] := by
      rw [List.take_add_one]; simp [List.getD, hkl]
    have lt : ∀ x ∈ l.take k, x < l.getD k 0 := by
      intro x hx
      rcases h.2.2 with h0 | h0
      · subst h0; simp at hx
      · have := h2 x hx; omega
    rw [e, show k + 1 - 1 = k from rfl]
    refine ⟨?_, ?_⟩
    · rw [List.pairwise_append]
      exact ⟨h1, by simp, fun x hx y hy => by rw [List.mem_singleton.1 hy]; exact lt x hx⟩
    · intro x hx
      rcases List.mem_append.1 hx with hx | hx
      · have := lt x hx; omega
      · rw [List.mem_singleton.1 hx]; omega
theorem setL_rise {l : List Int} (h : setL l = true) : l.Pairwise (· < ·) := by
  unfold setL at h
  simp only [Bool.and_eq_true] at h
  have := (rises_pair l l.length (Nat.le_refl _) h.1).1
  rwa [List.take_length] at this
theorem same_sets {a b : List Int} (ha : setL a = true) (hb : setL b = true) : (subL a b && subL b a) = decide (a = b) := by
  rw [Bool.eq_iff_iff]
  simp only [Bool.and_eq_true, subL_iff, decide_eq_true_eq]
  constructor
  · rintro ⟨h1, h2⟩
    exact rise_eq _ _ (setL_rise ha) (setL_rise hb) fun x => ⟨h1 x, h2 x⟩
  · rintro rfl
    exact ⟨fun _ h => h, fun _ h => h⟩
theorem same_labels {a b c d : List Int} (ha : setL a = true) (hb : setL b = true) (hc : setL c = true) (hd : setL d = true) : (subL a c && subL c a && subL b d && subL d b) = (decide (a = c) && decide (b = d)) := by
  rw [← same_sets ha hc, ← same_sets hb hd]
  cases subL a c <;> cases subL c a <;> cases subL b d <;> cases subL d b <;> rfl
end Go.Proofs.YtmphnoabkmoafaaGreatDoor
namespace Go.Proofs.YtmphnoabkmoafaaGreatDoor
open Go.RowKit
variable {uu0 : Unit} [Base uu0]
theorem mem_take_succ {l : List Int} {k : Nat} (hk : k < l.length) (x : Int) : x ∈ l.take (k + 1) ↔ x ∈ l.take k ∨ x = l.getD k 0 := by
  have e : l.take (k + 1) = l.take k ++ [l.getD k 0] := by
    rw [List.take_add_one]; simp [List.getD, hk]
  rw [e, List.mem_append, List.mem_singleton]
set_option maxRecDepth 100000 in
set_option maxHeartbeats 800000 in
theorem has_any (v : Value) (l : List Int) (t : Int) (w : World) (h : IntsAt w v l) (hl : l.length ≤ 1000000000000000) :
    Calls Tryz.prog 9 #[v, .int .i64 t] w fun e w' => e = .returned (.bool (decide (t ∈ l))) ∧ w' = w := by
  obtain ⟨ao, c, rfl⟩ := h.shape
  obtain ⟨n, hn⟩ : ∃ n, n = l.length := ⟨_, rfl⟩
  have Hn := Lib.hid hn
  have H := Lib.hid h
  clear h
  rw [← hn] at hl ⊢
  have H' : Hid (IntsAt w (.slice ao n c) l) := by rw [hn]; exact H.out
  clear H hn
  go_enter Tryz.func9, Tryz.ntmps9
  go_wp2
  go_loop [5] (fun u => ∃ k : Nat, k ≤ n ∧ u = .int .i64 k ∧ ¬ t ∈ l.take k) (fun u => n - (intOf u).toNat)
  case atStart => exact ⟨0, by omega, rfl, by simp⟩
  case round =>
    obtain ⟨k, hk, rfl, hnot⟩ := hrel
    by_cases hlt : k < n
    · have hia := H'.out
      rw [Hn.out] at hia
      obtain ⟨g, off, c', hv, hcell⟩ := hia.cells (by have := Hn.out; omega)
      obtain ⟨rfl, rfl⟩ : ao = some ⟨g, off, none⟩ ∧ c = c' := by simpa using hv
      have c0 := hcell k (by have := Hn.out; omega)
      obtain ⟨x, hx⟩ : ∃ x, x = l.getD k 0 := ⟨_, rfl⟩
      rw [← hx] at c0
      have Hx : Hid (t ∈ l.take (k + 1) ↔ t ∈ l.take k ∨ t = x) := by rw [hx]; exact mem_take_succ (by have := Hn.out; omega) t
      have Hin : Hid (x ∈ l) := by
        have hkl : k < l.length := by have := Hn.out; omega
        show x ∈ l
        rw [hx]
        simp only [List.getD, List.getElem?_eq_getElem hkl, Option.getD_some]
        exact List.getElem_mem _
      have Hnot := Lib.hid hnot
      clear hia hcell hv hx hnot H'
      by_cases hxt : x = t
      · have Hm : Hid (decide (t ∈ l) = true) := decide_eq_true (by rw [← hxt]; exact Hin.out)
        have hb : (x == t) = true := by simp [hxt]
        have hb2 : decide (x = t) = true := by simp [hxt]
        clear hxt
        go_wp2
        go_ret
        exact ⟨by rw [Hm.out]; rfl, rfl⟩
      · have hb : (x == t) = false := by simp [hxt]
        have hb2 : decide (x = t) = false := by simp [hxt]
        have Hxt := Lib.hid hxt
        clear hxt
        go_wp2
        refine ⟨⟨k + 1, by omega, by go_num, ?_⟩, by simp [intOf]; omega⟩
        rw [Hx.out]
        rintro (h | h)
        · exact Hnot.out h
        · exact Hxt.out h.symm
    · obtain rfl : k = n := by omega
      have Hm : Hid (decide (t ∈ l) = false) := decide_eq_false (by rw [List.take_of_length_le (by have := Hn.out; omega)] at hnot; exact hnot)
      clear hnot H'
      go_wp2
      go_ret
      exact ⟨by rw [Hm.out]; rfl, rfl⟩
end Go.Proofs.YtmphnoabkmoafaaGreatDoor
namespace Go.Proofs.YtmphnoabkmoafaaGreatDoor
variable {uu0 : Unit} [Base uu0]
end Go.Proofs.YtmphnoabkmoafaaGreatDoor
