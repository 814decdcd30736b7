/- Changes of labels: plain laws. -/
import Derived.Test.YtmphnoabkmoafaaDoorOrderL
import Derived.Test.YtmphnoabkmoafaaDoorSafe
namespace Go.Proofs.YtmphnoabkmoafaaDoor
set_option linter.unusedVariables false
def changeL (a b c d p m : List Int) : Bool := setL c && setL d && safeL a c p m && safeL b d p m
theorem safe_iff {a b p m : List Int} : safeL a b p m = true ↔ (∀ x ∈ b, x ∈ a ∨ x ∈ p) ∧ (∀ x ∈ a, x ∈ b ∨ x ∈ m) := by
  unfold safeL lessL
  simp only [Bool.and_eq_true, subL_iff, List.mem_filter, Bool.not_eq_true', decide_eq_false_iff_not]
  constructor
  · rintro ⟨h1, h2⟩
    exact ⟨fun x h => (Classical.em (x ∈ a)).imp_right fun k => h1 x ⟨h, k⟩, fun x h => (Classical.em (x ∈ b)).imp_right fun k => h2 x ⟨h, k⟩⟩
  · rintro ⟨h1, h2⟩
    exact ⟨fun x ⟨h, k⟩ => (h1 x h).resolve_left k, fun x ⟨h, k⟩ => (h2 x h).resolve_left k⟩
theorem safe_turn (a b p m : List Int) : safeL a b p m = safeL b a m p := by unfold safeL; rw [Bool.and_comm]
theorem safe_self (a p m : List Int) : safeL a a p m = true := safe_iff.2 ⟨fun _ h => .inl h, fun _ h => .inl h⟩
theorem safe_mono {a b p m p' m' : List Int} (hp : ∀ x ∈ p, x ∈ p') (hm : ∀ x ∈ m, x ∈ m') (h : safeL a b p m = true) : safeL a b p' m' = true := by
  rw [safe_iff] at *
  exact ⟨fun x k => (h.1 x k).imp_right (hp x), fun x k => (h.2 x k).imp_right (hm x)⟩
theorem change_turn {a b c d p m : List Int} (ha : setL a = true) (hb : setL b = true) (hc : setL c = true) (hd : setL d = true) : changeL a b c d p m = changeL c d a b m p := by
  unfold changeL
  rw [ha, hb, hc, hd, safe_turn a c, safe_turn b d]
theorem change_self {a b p m : List Int} (ha : setL a = true) (hb : setL b = true) : changeL a b a b p m = true := by
  unfold changeL
  rw [ha, hb, safe_self, safe_self]; rfl
theorem change_mono {a b c d p m p' m' : List Int} (hp : ∀ x ∈ p, x ∈ p') (hm : ∀ x ∈ m, x ∈ m') (h : changeL a b c d p m = true) : changeL a b c d p' m' = true := by
  unfold changeL at *
  simp only [Bool.and_eq_true] at *
  exact ⟨⟨h.1.1, safe_mono hp hm h.1.2⟩, safe_mono hp hm h.2⟩
theorem within_left {p m p' m' : List Int} (h : (joinOk p p' && joinOk m m') = true) : (subL p (joinL p p') && subL m (joinL m m')) = true := by
  simp only [Bool.and_eq_true] at h ⊢
  exact ⟨subL_iff.2 fun x k => (joinL_mem h.1 x).2 (.inl k), subL_iff.2 fun x k => (joinL_mem h.2 x).2 (.inl k)⟩
theorem within_right {p m p' m' : List Int} (h : (joinOk p p' && joinOk m m') = true) : (subL p' (joinL p p') && subL m' (joinL m m')) = true := by
  simp only [Bool.and_eq_true] at h ⊢
  exact ⟨subL_iff.2 fun x k => (joinL_mem h.1 x).2 (.inr k), subL_iff.2 fun x k => (joinL_mem h.2 x).2 (.inr k)⟩
theorem change_more {a b c d p m p' m' : List Int} (hok : (joinOk p p' && joinOk m m') = true) (h : changeL a b c d p m = true) : changeL a b c d (joinL p p') (joinL m m') = true := by
  simp only [Bool.and_eq_true] at hok
  exact change_mono (fun x k => (joinL_mem hok.1 x).2 (.inl k)) (fun x k => (joinL_mem hok.2 x).2 (.inl k)) h
theorem lessL_mem {a b : List Int} {x : Int} : x ∈ lessL a b ↔ x ∈ a ∧ ¬ x ∈ b := by unfold lessL; simp
theorem less_within (p m p' m' : List Int) : (subL (lessL p p') p && subL (lessL m m') m) = true := by
  simp only [Bool.and_eq_true, subL_iff]
  exact ⟨fun x h => (lessL_mem.1 h).1, fun x h => (lessL_mem.1 h).1⟩
theorem change_less {a b c d p m p' m' : List Int} (h : changeL a b c d (lessL p p') (lessL m m') = true) : changeL a b c d p m = true :=
  change_mono (fun x k => (lessL_mem.1 k).1) (fun x k => (lessL_mem.1 k).1) h
end Go.Proofs.YtmphnoabkmoafaaDoor
