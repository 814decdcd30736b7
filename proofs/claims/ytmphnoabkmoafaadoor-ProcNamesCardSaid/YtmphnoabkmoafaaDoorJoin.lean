/- label.Join: all of both. -/
import Derived.Test.YtmphnoabkmoafaaDoorNorm
namespace Go.Proofs.YtmphnoabkmoafaaDoor
open Go.RowKit
def joinOk (la lb : List Int) : Bool := setL la && setL lb && setL (normL (la ++ lb))
def joinL (la lb : List Int) : List Int := if setL la && setL lb then normV (la ++ lb) else []
set_option maxRecDepth 100000 in
set_option maxHeartbeats 2000000 in
theorem join_any (a b : Value) (la lb : List Int) (w : World) (ha : IntsAt w a la) (hb : IntsAt w b lb) (hla : la.length ≤ 17592186043904) (hlb : lb.length ≤ 17592186043904) :
    Calls Tryd.prog 26 #[a, b] w fun e w' => ∃ v', e = .returned (.tuple #[v', .bool (joinOk la lb)]) ∧ IntsAt w' v' (joinL la lb) ∧ Below w.heap.size w w' := by
  have h1 := set_any a la w ha (by omega)
  have h2 := set_any b lb w hb (by omega)
  have hW : ∀ (w1 : World), Below w.heap.size w w1 → ∀ v, w1.ownsRow w1.heap.size 3 1 v 0 [] → True := fun _ _ _ _ => trivial
  obtain ⟨aoa, ca, hva⟩ := ha.shape
  obtain ⟨aob, cb, hvb⟩ := hb.shape
  subst hva
  subst hvb
  obtain ⟨W, hWe⟩ : ∃ W, W = w.alloc (.cells #[.slice aoa la.length ca, .slice aob lb.length cb] 22) := ⟨_, rfl⟩
  have hbel : Below w.heap.size w W := by rw [hWe]; exact (Below.refl _ _).alloc (Nat.le_refl _) _
  have hB : W.heap[w.heap.size]? = some (.cells #[.slice aoa la.length ca, .slice aob lb.length cb] 22 (0, 0)) := by rw [hWe]; exact heap_alloc_new _ _
  have hc := fun (hla : la.length ≤ 1000000000) (hlb : lb.length ≤ 1000000000) => concat_any w.heap.size _ _ la lb W (by rw [cell_of_row W _ 0 _ 22 (0, 0) hB]; rfl) (by rw [cell_of_row W _ 1 _ 22 (0, 0) hB]; rfl) (by rw [hWe]; simp) (ha.below hbel (Nat.le_refl _)) (hb.below hbel (Nat.le_refl _)) hla hlb
  have hWs : W.heap.size = w.heap.size + 1 := by rw [hWe]; simp
  obtain ⟨sa, hsa⟩ : ∃ s, s = setL la := ⟨_, rfl⟩
  obtain ⟨sb, hsb⟩ : ∃ s, s = setL lb := ⟨_, rfl⟩
  obtain ⟨na, hna⟩ : ∃ n, n = la.length := ⟨_, rfl⟩
  obtain ⟨nb, hnb⟩ : ∃ n, n = lb.length := ⟨_, rfl⟩
  have Hj : Hid (joinOk la lb = (sa && sb && setL (normL (la ++ lb))) ∧ joinL la lb = if sa && sb then normV (la ++ lb) else []) := by rw [hsa, hsb]; exact ⟨rfl, rfl⟩
  rw [← hsa] at h1
  rw [← hsb] at h2
  subst hWe
  rw [← hna] at h1 hc hbel hWs hla ⊢
  rw [← hnb] at h2 hc hbel hWs hlb ⊢
  have H16 : Hid ((sa = true → na ≤ 16) ∧ (sb = true → nb ≤ 16)) := by
    rw [hsa, hsb, hna, hnb]
    refine ⟨fun h => ?_, fun h => ?_⟩ <;> (unfold setL at h; simp only [Bool.and_eq_true, decide_eq_true_eq] at h; exact h.2)
  have H2 := Lib.hid h2
  have Hna := Lib.hid hna
  have Hnb := Lib.hid hnb
  have Hc := Lib.hid hc
  clear hsa hsb ha hb h2 hW hna hnb hB hc
  rcases sa with _ | _
  · go_enter Tryd.func26, Tryd.ntmps26
    go_wp2_with (first
      | (go_at_call 43; refine h1.mono ?_; rintro e w1 ⟨rfl, rfl⟩; replace h1 := H2.out)
      | (go_at_call 45; refine (Hc.out (by have := H16.out.1 (by simp); omega) (by have := H16.out.2 (by simp); omega)).mono ?_; rintro e w2 ⟨v2, rfl, hown, hb2⟩; have hat := IntsAt.of_owns (l := la ++ lb) hown; obtain ⟨ao2, c2, rfl⟩ := hat.shape; simp only [List.length_append] at hat)
      | (go_at_call 44; refine (norm_any _ (la ++ lb) _ hat (by rw [List.length_append, ← Hna.out, ← Hnb.out]; have := H16.out.1 (by simp); have := H16.out.2 (by simp); omega)).mono ?_; rintro e w3 ⟨v3, rfl, h3, hb3⟩; obtain ⟨ao3, c3, rfl⟩ := h3.shape))
    go_ret2
    rw [Hj.out.1, Hj.out.2]
    exact ⟨_, rfl, IntsAt.nil _, Below.refl _ _⟩
  rcases sb with _ | _
  · go_enter Tryd.func26, Tryd.ntmps26
    go_wp2_with (first
      | (go_at_call 43; refine h1.mono ?_; rintro e w1 ⟨rfl, rfl⟩; replace h1 := H2.out)
      | (go_at_call 45; refine (Hc.out (by have := H16.out.1 (by simp); omega) (by have := H16.out.2 (by simp); omega)).mono ?_; rintro e w2 ⟨v2, rfl, hown, hb2⟩; have hat := IntsAt.of_owns (l := la ++ lb) hown; obtain ⟨ao2, c2, rfl⟩ := hat.shape; simp only [List.length_append] at hat)
      | (go_at_call 44; refine (norm_any _ (la ++ lb) _ hat (by rw [List.length_append, ← Hna.out, ← Hnb.out]; have := H16.out.1 (by simp); have := H16.out.2 (by simp); omega)).mono ?_; rintro e w3 ⟨v3, rfl, h3, hb3⟩; obtain ⟨ao3, c3, rfl⟩ := h3.shape))
    go_ret2
    rw [Hj.out.1, Hj.out.2]
    exact ⟨_, rfl, IntsAt.nil _, Below.refl _ _⟩
  · go_enter Tryd.func26, Tryd.ntmps26
    go_wp2_with (first
      | (go_at_call 43; refine h1.mono ?_; rintro e w1 ⟨rfl, rfl⟩; replace h1 := H2.out)
      | (go_at_call 45; refine (Hc.out (by have := H16.out.1 (by simp); omega) (by have := H16.out.2 (by simp); omega)).mono ?_; rintro e w2 ⟨v2, rfl, hown, hb2⟩; have hat := IntsAt.of_owns (l := la ++ lb) hown; obtain ⟨ao2, c2, rfl⟩ := hat.shape; simp only [List.length_append] at hat)
      | (go_at_call 44; refine (norm_any _ (la ++ lb) _ hat (by rw [List.length_append, ← Hna.out, ← Hnb.out]; have := H16.out.1 (by simp); have := H16.out.2 (by simp); omega)).mono ?_; rintro e w3 ⟨v3, rfl, h3, hb3⟩; obtain ⟨ao3, c3, rfl⟩ := h3.shape))
    go_ret2
    rw [Hj.out.1, Hj.out.2]
    have hs1 := hbel.size
    have k1 := hbel.trans (hb2.mono hs1)
    have k2 := k1.trans (hb3.mono k1.size)
    exact ⟨_, rfl, h3, k2⟩
end Go.Proofs.YtmphnoabkmoafaaDoor
