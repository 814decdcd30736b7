/- label.Join: all of both. label.Safe: whether a set may become another one. -/
import Derived.Test.YtmphnoabkmoafaaGreatDoorM6
import Derived.Test.YtmphnoabkmoafaaGreatDoorM5
namespace Go.Proofs.YtmphnoabkmoafaaGreatDoor
open Go.RowKit
variable {uu0 : Unit} [Base uu0]
def joinOk (la lb : List Int) : Bool := setL la && setL lb && setL (normL (la ++ lb))
def joinL (la lb : List Int) : List Int := if setL la && setL lb then normV (la ++ lb) else []
set_option maxRecDepth 100000 in
set_option maxHeartbeats 2000000 in
theorem join_any (a b : Value) (la lb : List Int) (w : World) (ha : IntsAt w a la) (hb : IntsAt w b lb) (hla : la.length ≤ 17592186043904) (hlb : lb.length ≤ 17592186043904) :
    Calls Tryz.prog 24 #[a, b] w fun e w' => ∃ v', e = .returned (.tuple #[v', .bool (joinOk la lb)]) ∧ IntsAt w' v' (joinL la lb) ∧ Below w.heap.size w w' := by
  have h1 := set_any a la w ha (by omega)
  have h2 := set_any b lb w hb (by omega)
  have hW : ∀ (w1 : World), Below w.heap.size w w1 → ∀ v, w1.ownsRow w1.heap.size 3 1 v 0 [] → True := fun _ _ _ _ => trivial
  obtain ⟨aoa, ca, hva⟩ := ha.shape
  obtain ⟨aob, cb, hvb⟩ := hb.shape
  subst hva
  subst hvb
  obtain ⟨W, hWe⟩ : ∃ W, W = w.alloc (.cells #[.slice aoa la.length ca, .slice aob lb.length cb] 30) := ⟨_, rfl⟩
  have hbel : Below w.heap.size w W := by rw [hWe]; exact (Below.refl _ _).alloc (Nat.le_refl _) _
  have hB : W.heap[w.heap.size]? = some (.cells #[.slice aoa la.length ca, .slice aob lb.length cb] 30 (0, 0)) := by rw [hWe]; exact heap_alloc_new _ _
  have hc := fun (hla : la.length ≤ 1000000000) (hlb : lb.length ≤ 1000000000) => concat_any w.heap.size _ _ la lb W (by rw [cell_of_row W _ 0 _ 30 (0, 0) hB]; rfl) (by rw [cell_of_row W _ 1 _ 30 (0, 0) hB]; rfl) (by rw [hWe]; simp) (ha.below hbel (Nat.le_refl _)) (hb.below hbel (Nat.le_refl _)) hla hlb
  have hWs : W.heap.size = w.heap.size + 1 := by rw [hWe]; simp
  obtain ⟨sa, hsa⟩ : ∃ s, s = setL la := ⟨_, rfl⟩
  obtain ⟨sb, hsb⟩ : ∃ s, s = setL lb := ⟨_, rfl⟩
  obtain ⟨na, hna⟩ : ∃ n, n = la.length := ⟨_, rfl⟩
  obtain ⟨nb, hnb⟩ : ∃ n, n = lb.length := ⟨_, rfl⟩
  have Hj : Hid (joinOk la lb = (sa && sb && setL (normL (la ++ lb))) ∧ joinL la lb = if sa && sb then normV (la ++ lb) else []) := by rw [hsa, hsb]; exact ⟨rfl, rfl⟩
  rw [← hsa] at h1
  rw [← hsb] at h2
  subst hWe
  rw [← hna] at h1 hc hbel hWs hla ⊢
  rw [← hnb] at h2 hc hbel hWs hlb ⊢
  have H16 : Hid ((sa = true → na ≤ 16) ∧ (sb = true → nb ≤ 16)) := by
    rw [hsa, hsb, hna, hnb]
    refine ⟨fun h => ?_, fun h => ?_⟩ <;> (unfold setL at h; simp only [Bool.and_eq_true, decide_eq_true_eq] at h; exact h.2)
  have H2 := Lib.hid h2
  have Hna := Lib.hid hna
  have Hnb := Lib.hid hnb
  have Hc := Lib.hid hc
  clear hsa hsb ha hb h2 hW hna hnb hB hc
  rcases sa with _ | _
  · go_enter Tryz.func24, Tryz.ntmps24
    go_wp2_with (first
      | (go_at_call 57; refine h1.mono ?_; rintro e w1 ⟨rfl, rfl⟩; replace h1 := H2.out)
      | (go_at_call 59; refine (Hc.out (by have := H16.out.1 (by simp); omega) (by have := H16.out.2 (by simp); omega)).mono ?_; rintro e w2 ⟨v2, rfl, hown, hb2⟩; have hat := IntsAt.of_owns (l := la ++ lb) hown; obtain ⟨ao2, c2, rfl⟩ := hat.shape; simp only [List.length_append] at hat)
      | (go_at_call 58; refine (norm_any _ (la ++ lb) _ hat (by rw [List.length_append, ← Hna.out, ← Hnb.out]; have := H16.out.1 (by simp); have := H16.out.2 (by simp); omega)).mono ?_; rintro e w3 ⟨v3, rfl, h3, hb3⟩; obtain ⟨ao3, c3, rfl⟩ := h3.shape))
    go_ret2
    rw [Hj.out.1, Hj.out.2]
    exact ⟨_, rfl, IntsAt.nil _, Below.refl _ _⟩
  rcases sb with _ | _
  · go_enter Tryz.func24, Tryz.ntmps24
    go_wp2_with (first
      | (go_at_call 57; refine h1.mono ?_; rintro e w1 ⟨rfl, rfl⟩; replace h1 := H2.out)
      | (go_at_call 59; refine (Hc.out (by have := H16.out.1 (by simp); omega) (by have := H16.out.2 (by simp); omega)).mono ?_; rintro e w2 ⟨v2, rfl, hown, hb2⟩; have hat := IntsAt.of_owns (l := la ++ lb) hown; obtain ⟨ao2, c2, rfl⟩ := hat.shape; simp only [List.length_append] at hat)
      | (go_at_call 58; refine (norm_any _ (la ++ lb) _ hat (by rw [List.length_append, ← Hna.out, ← Hnb.out]; have := H16.out.1 (by simp); have := H16.out.2 (by simp); omega)).mono ?_; rintro e w3 ⟨v3, rfl, h3, hb3⟩; obtain ⟨ao3, c3, rfl⟩ := h3.shape))
    go_ret2
    rw [Hj.out.1, Hj.out.2]
    exact ⟨_, rfl, IntsAt.nil _, Below.refl _ _⟩
  · go_enter Tryz.func24, Tryz.ntmps24
    go_wp2_with (first
      | (go_at_call 57; refine h1.mono ?_; rintro e w1 ⟨rfl, rfl⟩; replace h1 := H2.out)
      | (go_at_call 59; refine (Hc.out (by have := H16.out.1 (by simp); omega) (by have := H16.out.2 (by simp); omega)).mono ?_; rintro e w2 ⟨v2, rfl, hown, hb2⟩; have hat := IntsAt.of_owns (l := la ++ lb) hown; obtain ⟨ao2, c2, rfl⟩ := hat.shape; simp only [List.length_append] at hat)
      | (go_at_call 58; refine (norm_any _ (la ++ lb) _ hat (by rw [List.length_append, ← Hna.out, ← Hnb.out]; have := H16.out.1 (by simp); have := H16.out.2 (by simp); omega)).mono ?_; rintro e w3 ⟨v3, rfl, h3, hb3⟩; obtain ⟨ao3, c3, rfl⟩ := h3.shape))
    go_ret2
    rw [Hj.out.1, Hj.out.2]
    have hs1 := hbel.size
    have k1 := hbel.trans (hb2.mono hs1)
    have k2 := k1.trans (hb3.mono k1.size)
    exact ⟨_, rfl, h3, k2⟩
end Go.Proofs.YtmphnoabkmoafaaGreatDoor
namespace Go.Proofs.YtmphnoabkmoafaaGreatDoor
open Go.RowKit
variable {uu0 : Unit} [Base uu0]
def lessL (la lb : List Int) : List Int := la.filter fun x => !decide (x ∈ lb)
def safeL (la lb lp lm : List Int) : Bool := subL (lessL lb la) lp && subL (lessL la lb) lm
theorem lessL_length (la lb : List Int) : (lessL la lb).length ≤ la.length := List.length_filter_le _ _
set_option maxRecDepth 100000 in
set_option maxHeartbeats 2000000 in
theorem safe_any (a b p m : Value) (la lb lp lm : List Int) (w : World) (ha : IntsAt w a la) (hb : IntsAt w b lb) (hp : IntsAt w p lp) (hm : IntsAt w m lm) (hla : la.length ≤ 17592186043904) (hlb : lb.length ≤ 17592186043904) (hlp : lp.length ≤ 17592186043904) (hlm : lm.length ≤ 17592186043904) :
    Calls Tryz.prog 98 #[a, b, .agg #[p, m]] w fun e w' => e = .returned (.bool (safeL la lb lp lm)) ∧ Below w.heap.size w w' := by
  obtain ⟨aoa, ca, hva⟩ := ha.shape
  obtain ⟨aob, cb, hvb⟩ := hb.shape
  obtain ⟨aop, cp, hvp⟩ := hp.shape
  obtain ⟨aom, cm, hvm⟩ := hm.shape
  subst hva hvb hvp hvm
  obtain ⟨na, hna⟩ : ∃ n, n = la.length := ⟨_, rfl⟩
  obtain ⟨nb, hnb⟩ : ∃ n, n = lb.length := ⟨_, rfl⟩
  obtain ⟨np, hnp⟩ : ∃ n, n = lp.length := ⟨_, rfl⟩
  obtain ⟨nm, hnm⟩ : ∃ n, n = lm.length := ⟨_, rfl⟩
  rw [← hna] at ha hla ⊢
  rw [← hnb] at hb hlb ⊢
  rw [← hnp] at hp hlp ⊢
  rw [← hnm] at hm hlm ⊢
  obtain ⟨W, hW⟩ : ∃ W, W = w.alloc (.cells #[.slice aop np cp, .slice aom nm cm] 34) := ⟨_, rfl⟩
  have hbel : Below w.heap.size w W := by rw [hW]; exact (Below.refl _ _).alloc (Nat.le_refl _) _
  have hB : W.heap[w.heap.size]? = some (.cells #[.slice aop np cp, .slice aom nm cm] 34 (0, 0)) := by rw [hW]; exact heap_alloc_new _ _
  have hWs : W.heap.size = w.heap.size + 1 := by rw [hW]; simp
  have c0 : W.cell? ⟨w.heap.size, 0, none⟩ = some (.slice aop np cp) := by rw [cell_of_row W _ 0 _ 34 (0, 0) hB]; rfl
  have c1 : W.cell? ⟨w.heap.size, 1, none⟩ = some (.slice aom nm cm) := by rw [cell_of_row W _ 1 _ 34 (0, 0) hB]; rfl
  have h1 : ∀ W1, Below W.heap.size W W1 → IntsAt W1 (.slice aoa na ca) la ∧ IntsAt W1 (.slice aob nb cb) lb ∧ IntsAt W1 (.slice aop np cp) lp ∧ IntsAt W1 (.slice aom nm cm) lm ∧ W1.cell? ⟨w.heap.size, 0, none⟩ = some (.slice aop np cp) ∧ W1.cell? ⟨w.heap.size, 1, none⟩ = some (.slice aom nm cm) := fun W1 h =>
    have k := hbel.trans (h.mono hbel.size)
    ⟨ha.below k (Nat.le_refl _), hb.below k (Nat.le_refl _), hp.below k (Nat.le_refl _), hm.below k (Nat.le_refl _), (h.cell (p := ⟨w.heap.size, 0, none⟩) (by simp only; omega)).trans c0, (h.cell (p := ⟨w.heap.size, 1, none⟩) (by simp only; omega)).trans c1⟩
  have H1 := Lib.hid h1
  have Hna := Lib.hid hna
  have Hnb := Lib.hid hnb
  have Hnp := Lib.hid hnp
  have Hnm := Lib.hid hnm
  obtain ⟨s1, hs1⟩ : ∃ s, s = subL (lessL lb la) lp := ⟨_, rfl⟩
  obtain ⟨s2, hs2⟩ : ∃ s, s = subL (lessL la lb) lm := ⟨_, rfl⟩
  have Hs : Hid (safeL la lb lp lm = (s1 && s2) ∧ s1 = subL (lessL lb la) lp ∧ s2 = subL (lessL la lb) lm) := ⟨by rw [hs1, hs2]; rfl, hs1, hs2⟩
  clear hna hnb hnp hnm h1 ha hb hp hm hB hs1 hs2
  have v0 : W.drew.cell? ⟨w.heap.size, 0, none⟩ = some (.slice aop np cp) := c0
  rcases s1 with _ | _
  · have Hd1 : Hid (decide (∀ x ∈ lessL lb la, x ∈ lp) = false) := Hs.out.2.1.symm
    go_enter Tryz.func98, Tryz.ntmps98
    go_wp2
    rw [← hW]
    clear hW
    first
    | go_region_with (first
        | (go_at_call 99; refine (someOut_any _ _ la lb _ (H1.out w2 k2).1 (H1.out w2 k2).2.1 (by rw [← Hna.out]; exact hla) (by rw [← Hnb.out]; exact hlb)).mono ?_; rintro e w3 ⟨v3, rfl, i3, hb3⟩; have k3 : Below W.heap.size W w3 := k2.trans (hb3.mono k2.size); obtain ⟨ao3, c3', rfl⟩ := i3.shape; have d1 := (H1.out w3 k3).2.2.2.2.2)
        | (go_at_call 99; refine (someOut_any _ _ lb la _ (H1.out W.drew ⟨rfl, rfl, rfl, Nat.le_refl _, fun _ _ => rfl⟩).2.1 (H1.out W.drew ⟨rfl, rfl, rfl, Nat.le_refl _, fun _ _ => rfl⟩).1 (by rw [← Hnb.out]; exact hlb) (by rw [← Hna.out]; exact hla)).mono ?_; rintro e w1 ⟨v1, rfl, i1, hb1⟩; have k1 : Below W.heap.size W w1 := ⟨hb1.os, hb1.tape, hb1.output, hb1.size, hb1.block⟩; obtain ⟨ao1, c1', rfl⟩ := i1.shape; have d0 := (H1.out w1 k1).2.2.2.2.1)
        | (go_at_call 97; refine (sub_any _ _ (lessL la lb) lm _ i3 (H1.out w3 k3).2.2.2.1 (Nat.le_trans (lessL_length _ _) (by rw [← Hna.out]; exact hla)) (by rw [← Hnm.out]; exact hlm)).mono ?_; rintro e w4 ⟨rfl, hb4⟩; have k4 : Below W.heap.size W w4 := k3.trans (hb4.mono k3.size); rw [show decide (∀ x ∈ lessL la lb, x ∈ lm) = s2 from Hs.out.2.2.symm])
        | (go_at_call 97; refine (sub_any _ _ (lessL lb la) lp _ i1 (H1.out w1 k1).2.2.1 (Nat.le_trans (lessL_length _ _) (by rw [← Hnb.out]; exact hlb)) (by rw [← Hnp.out]; exact hlp)).mono ?_; rintro e w2 ⟨rfl, hb2⟩; have k2 : Below W.heap.size W w2 := k1.trans (hb2.mono k1.size); rw [Hd1.out]; have d2 := (H1.out w2 k2).2.2.2.2.2))
    | fail
    all_goals
      go_wp2
      go_ret
      exact ⟨by rw [Hs.out.1]; rfl, hbel.trans (k2.mono hbel.size)⟩
  · have Hd1 : Hid (decide (∀ x ∈ lessL lb la, x ∈ lp) = true) := Hs.out.2.1.symm
    go_enter Tryz.func98, Tryz.ntmps98
    go_wp2
    rw [← hW]
    clear hW
    go_region_with (first
        | (go_at_call 99; refine (someOut_any _ _ la lb _ (H1.out w2 k2).1 (H1.out w2 k2).2.1 (by rw [← Hna.out]; exact hla) (by rw [← Hnb.out]; exact hlb)).mono ?_; rintro e w3 ⟨v3, rfl, i3, hb3⟩; have k3 : Below W.heap.size W w3 := k2.trans (hb3.mono k2.size); obtain ⟨ao3, c3', rfl⟩ := i3.shape; have d1 := (H1.out w3 k3).2.2.2.2.2)
        | (go_at_call 99; refine (someOut_any _ _ lb la _ (H1.out W.drew ⟨rfl, rfl, rfl, Nat.le_refl _, fun _ _ => rfl⟩).2.1 (H1.out W.drew ⟨rfl, rfl, rfl, Nat.le_refl _, fun _ _ => rfl⟩).1 (by rw [← Hnb.out]; exact hlb) (by rw [← Hna.out]; exact hla)).mono ?_; rintro e w1 ⟨v1, rfl, i1, hb1⟩; have k1 : Below W.heap.size W w1 := ⟨hb1.os, hb1.tape, hb1.output, hb1.size, hb1.block⟩; obtain ⟨ao1, c1', rfl⟩ := i1.shape; have d0 := (H1.out w1 k1).2.2.2.2.1)
        | (go_at_call 97; refine (sub_any _ _ (lessL la lb) lm _ i3 (H1.out w3 k3).2.2.2.1 (Nat.le_trans (lessL_length _ _) (by rw [← Hna.out]; exact hla)) (by rw [← Hnm.out]; exact hlm)).mono ?_; rintro e w4 ⟨rfl, hb4⟩; have k4 : Below W.heap.size W w4 := k3.trans (hb4.mono k3.size); rw [show decide (∀ x ∈ lessL la lb, x ∈ lm) = s2 from Hs.out.2.2.symm])
        | (go_at_call 97; refine (sub_any _ _ (lessL lb la) lp _ i1 (H1.out w1 k1).2.2.1 (Nat.le_trans (lessL_length _ _) (by rw [← Hnb.out]; exact hlb)) (by rw [← Hnp.out]; exact hlp)).mono ?_; rintro e w2 ⟨rfl, hb2⟩; have k2 : Below W.heap.size W w2 := k1.trans (hb2.mono k1.size); rw [Hd1.out]; have d2 := (H1.out w2 k2).2.2.2.2.2))
    all_goals
      go_wp2
      go_ret
      exact ⟨by rw [Hs.out.1]; rfl, hbel.trans (k4.mono hbel.size)⟩
end Go.Proofs.YtmphnoabkmoafaaGreatDoor
