/- The reference's Join: all of both. -/
import Derived.Test.YtgkpdkdkpmkgdaaRefNorm
import Derived.Test.YtgkpdkdkpmkgdaaJoin
namespace Go.Proofs.Ytgkpdkdkpmkgdaa
open Go.RowKit
theorem below_drawn {B : Nat} {w wr : World} (h : Below B w wr) (m : Nat) : Below B w (wr.drewN m) := ⟨h.os, h.tape, h.output, h.size, h.block⟩
theorem refset_at (v : Value) (l : List Int) (w : World) (h : IntsAt w v l) (hl : l.length ≤ 1000000000000000) (m : Nat) :
    Calls Try.prog 17 #[v] (w.drewN m) fun e w' => e = .returned (.bool (setL l)) ∧ ∃ m', w' = w.drewN m' :=
  (refset_any v l _ (h.drewN m) hl).mono fun _ _ ⟨h1, k, h2⟩ => ⟨h1, m + k, by rw [h2, World.drewN_drewN]⟩
set_option maxRecDepth 100000 in
set_option maxHeartbeats 2000000 in
theorem refjoin_any (a b : Value) (la lb : List Int) (w : World) (ha : IntsAt w a la) (hb : IntsAt w b lb) (hla : la.length ≤ 17592186043904) (hlb : lb.length ≤ 17592186043904) :
    Calls Try.prog 16 #[a, b] w fun e w' => ∃ v', e = .returned (.tuple #[v', .bool (joinOk la lb)]) ∧ IntsAt w' v' (joinL la lb) ∧ Below w.heap.size w w' := by
  obtain ⟨i0, hi, hz0, hz1, hz2⟩ := info_parts info3
  have h1 := refset_at a la w ha (by omega) 0
  have h2 := refset_at b lb w hb (by omega)
  have hA : ∀ W, Below w.heap.size w W → IntsAt W a la ∧ IntsAt W b lb := fun W h => ⟨ha.below h (Nat.le_refl _), hb.below h (Nat.le_refl _)⟩
  obtain ⟨aoa, ca, hva⟩ := ha.shape
  obtain ⟨aob, cb, hvb⟩ := hb.shape
  subst hva
  subst hvb
  obtain ⟨sa, hsa⟩ : ∃ s, s = setL la := ⟨_, rfl⟩
  obtain ⟨sb, hsb⟩ : ∃ s, s = setL lb := ⟨_, rfl⟩
  obtain ⟨na, hna⟩ : ∃ n, n = la.length := ⟨_, rfl⟩
  obtain ⟨nb, hnb⟩ : ∃ n, n = lb.length := ⟨_, rfl⟩
  have Hj : Hid (joinOk la lb = (sa && sb && setL (normL (la ++ lb))) ∧ joinL la lb = if sa && sb then normV (la ++ lb) else []) := by rw [hsa, hsb]; exact ⟨rfl, rfl⟩
  have H16 : Hid ((sa = true → na ≤ 16) ∧ (sb = true → nb ≤ 16)) := by
    rw [hsa, hsb, hna, hnb]
    refine ⟨fun h => ?_, fun h => ?_⟩ <;> (unfold setL at h; simp only [Bool.and_eq_true, decide_eq_true_eq] at h; exact h.2)
  rw [← hsa] at h1
  simp only [← hsb] at h2
  rw [← hna] at h1 hA hla ⊢
  rw [← hnb] at h2 hA hlb ⊢
  have Ha := Lib.hid hA
  have H1 : Hid (Calls Try.prog 17 #[.slice aoa na ca] w fun e w' => e = .returned (.bool sa) ∧ ∃ m', w' = w.drewN m') := h1
  have H2 := Lib.hid h2
  have Hna := Lib.hid hna
  have Hnb := Lib.hid hnb
  have F : True := trivial
  clear hsa hsb ha hb h1 h2 hA hna hnb
  rcases sa with _ | _
  · go_enter Try.func16, Try.ntmps16
    go_wp2_with (first
      | (go_at_call 17; have G := F; clear F; refine H1.out.mono ?_; rintro e w1 ⟨rfl, m1, rfl⟩)
      | (go_at_call 17; have G2 := G; clear G; refine (H2.out m1).mono ?_; rintro e w1 ⟨rfl, m2, rfl⟩))
    go_ret2
    rw [Hj.out.1, Hj.out.2]
    exact ⟨_, rfl, IntsAt.nil _, below_drawn (Below.refl _ _) _⟩
  rcases sb with _ | _
  · go_enter Try.func16, Try.ntmps16
    go_wp2_with (first
      | (go_at_call 17; have G := F; clear F; refine H1.out.mono ?_; rintro e w1 ⟨rfl, m1, rfl⟩)
      | (go_at_call 17; have G2 := G; clear G; refine (H2.out m1).mono ?_; rintro e w1 ⟨rfl, m2, rfl⟩))
    go_ret2
    rw [Hj.out.1, Hj.out.2]
    exact ⟨_, rfl, IntsAt.nil _, below_drawn (Below.refl _ _) _⟩
  · go_enter Try.func16, Try.ntmps16
    go_wp2_with (first
      | (go_at_call 17; have G := F; clear F; refine H1.out.mono ?_; rintro e w1 ⟨rfl, m1, rfl⟩)
      | (go_at_call 17; have G2 := G; clear G; refine (H2.out m1).mono ?_; rintro e w1 ⟨rfl, m2, rfl⟩; have hown0 : ((w.drewN m2).alloc (.cells #[] 3)).ownsRow w.heap.size 3 1 (.slice (some ⟨w.heap.size, 0, none⟩) 0 0) 0 (lits []) := World.ownsRow_made (w.drewN m2) #[] 0 (by simp) (by decide) rfl; have hb0 : Below w.heap.size w ((w.drewN m2).alloc (.cells #[] 3)) := (below_drawn (Below.refl _ _) m2).alloc (Nat.le_refl _) _; have Hown0 := Lib.hid hown0; clear hown0)
      | ((with_reducible show wpList _ _ _ (⟨some 16, _, _, _, _, _⟩ :: _) _ _); go_must (refine wpList_append_ints rfl _ _ 22 rfl w.heap.size 3 i0 (.int .i64 0) und22 hi hz0 hz1 hz2 rfl _ 0 [] la rfl Hown0.out _ rfl (Ha.out _ hb0).1 (by rw [← Hna.out]; have := H16.out.1 (by simp); omega) hb0.size ?_; intro v4 w4 hown4 hg4 hn4; simp only [Act.put, List.setIfInBounds_toArray, List.set_cons_zero, List.set_cons_succ]; have hb4 := hb0.grown hg4 hb0.size (fun q hq => (Hown0.out.lt q hq).1); have Hown4 := Lib.hid hown4; clear hown4 hn4))
      | ((with_reducible show wpList _ _ _ (⟨some 18, _, _, _, _, _⟩ :: _) _ _); go_must (refine wpList_append_ints rfl _ _ 22 rfl w.heap.size 3 i0 (.int .i64 0) und22 hi hz0 hz1 hz2 rfl _ _ _ lb rfl Hown4.out _ rfl (Ha.out _ hb4).2 (by rw [← Hna.out, ← Hnb.out]; have := H16.out.1 (by simp); have := H16.out.2 (by simp); omega) hb4.size ?_; intro v5 w5 hown5 hg5 hn5; simp only [Act.put, List.setIfInBounds_toArray, List.set_cons_zero, List.set_cons_succ]; have hb5 := hb4.grown hg5 hb4.size (fun q hq => (Hown4.out.lt q hq).1); have hat : IntsAt w5 v5 (la ++ lb) := IntsAt.of_owns (l := la ++ lb) hown5; clear hown5 hn5))
      | (go_at_call 14; refine (refnorm_any _ (la ++ lb) _ hat (by rw [List.length_append, ← Hna.out, ← Hnb.out]; have := H16.out.1 (by simp); have := H16.out.2 (by simp); omega)).mono ?_; rintro e w3 ⟨v3, rfl, h3, hb3⟩))
    go_ret2
    rw [Hj.out.1, Hj.out.2]
    exact ⟨_, rfl, h3, hb5.trans (hb3.mono hb5.size)⟩
end Go.Proofs.Ytgkpdkdkpmkgdaa
