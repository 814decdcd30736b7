/- Flowing is an order: plain laws. -/
import Derived.Test.YtmphnoabkmoafaaDoorJoin
import Derived.Test.YtmphnoabkmoafaaDoorJoin
import Derived.Test.YtmphnoabkmoafaaDoorPlain
import Derived.Test.YtmphnoabkmoafaaDoorSub
namespace Go.Proofs.YtmphnoabkmoafaaDoor
theorem subL_iff {a b : List Int} : subL a b = true ↔ ∀ x ∈ a, x ∈ b := by unfold subL; simp
theorem subL_refl (a : List Int) : subL a a = true := subL_iff.2 fun _ h => h
theorem subL_trans {a b c : List Int} (h1 : subL a b = true) (h2 : subL b c = true) : subL a c = true := subL_iff.2 fun x h => subL_iff.1 h2 x (subL_iff.1 h1 x h)
def flowL (a b c d : List Int) : Bool := subL a c && subL d b
theorem flow_refl (a b : List Int) : flowL a b a b = true := by unfold flowL; rw [subL_refl, subL_refl]; rfl
theorem flow_trans {a b c d e f : List Int} (h1 : flowL a b c d = true) (h2 : flowL c d e f = true) : flowL a b e f = true := by
  unfold flowL at *
  simp only [Bool.and_eq_true] at *
  exact ⟨subL_trans h1.1 h2.1, subL_trans h2.2 h1.2⟩
theorem flow_same (a b c d : List Int) : (subL a c && subL c a && subL b d && subL d b) = (flowL a b c d && flowL c d a b) := by
  unfold flowL
  cases subL a c <;> cases subL c a <;> cases subL b d <;> cases subL d b <;> rfl
theorem joinL_mem {a b : List Int} (h : joinOk a b = true) (x : Int) : x ∈ joinL a b ↔ x ∈ a ∨ x ∈ b := by
  unfold joinOk at h
  simp only [Bool.and_eq_true] at h
  unfold joinL normV
  rw [h.1.1, h.1.2, h.2]
  simp only [Bool.and_true, if_true]
  rw [(normL_laws _).2, List.mem_append]
end Go.Proofs.YtmphnoabkmoafaaDoor
