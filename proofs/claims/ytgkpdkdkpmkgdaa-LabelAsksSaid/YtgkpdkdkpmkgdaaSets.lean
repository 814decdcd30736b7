/- The law on sets: the walk. -/
import Derived.Test.YtgkpdkdkpmkgdaaRefMeet
import Derived.Test.YtgkpdkdkpmkgdaaSame
import Derived.Test.YtgkpdkdkpmkgdaaAwake
namespace Go.Proofs.Ytgkpdkdkpmkgdaa
open Go.RowKit
theorem setL_few {l : List Int} (h : setL l = true) : l.length ≤ 16 := by
  unfold setL at h; simp only [Bool.and_eq_true, decide_eq_true_eq] at h; exact h.2
theorem normV_few (l : List Int) : (normV l).length ≤ 16 := by
  unfold normV; split
  · rename_i h; exact setL_few h
  · exact Nat.zero_le _
theorem joinL_few (la lb : List Int) : (joinL la lb).length ≤ 16 := by
  unfold joinL; split
  · exact normV_few _
  · exact Nat.zero_le _
theorem meetL_few (la lb : List Int) : (meetL la lb).length ≤ 16 := by
  unfold meetL; split
  · rename_i h
    simp only [Bool.and_eq_true] at h
    exact Nat.le_trans (List.length_filter_le _ _) (setL_few h.1)
  · exact Nat.zero_le _
/-- SameSet of two that read as one list. -/
theorem same_one (a b : Value) (l : List Int) (w : World) (ha : IntsAt w a l) (hb : IntsAt w b l) (hl : l.length ≤ 16) :
    Calls Try.prog 13 #[a, b] w fun e w' => e = .returned (.bool true) ∧ ∃ n, w' = w.drewN n :=
  (same_any a b l l w ha hb (by omega) (by omega)).mono fun e w' ⟨h1, h2⟩ => ⟨by rw [h1]; simp, h2⟩
set_option maxRecDepth 100000 in
set_option maxHeartbeats 4000000 in
theorem sets_any (a b : Value) (la lb : List Int) (w : World) (ha : IntsAt w a la) (hb : IntsAt w b lb) (hla : la.length ≤ 17592186043904) (hlb : lb.length ≤ 17592186043904) :
    Calls Try.prog 4 #[a, b] w fun e w' => e = .returned (.bool true) ∧ Below w.heap.size w w' := by
  have hA : ∀ W, Below w.heap.size w W → IntsAt W a la ∧ IntsAt W b lb := fun W h => ⟨ha.below h (Nat.le_refl _), hb.below h (Nat.le_refl _)⟩
  have H := Lib.hid hA
  have c1 := norm_any a la w ha hla
  have c2 := fun W h => refnorm_any a la W (H.out W h).1 hla
  have c3 := fun W h => join_any a b la lb W (H.out W h).1 (H.out W h).2 hla hlb
  have c4 := fun W h => refjoin_any a b la lb W (H.out W h).1 (H.out W h).2 hla hlb
  have c5 := fun W h => set_any a la W (H.out W h).1 (by omega)
  have c6 := fun W h => refset_any a la W (H.out W h).1 (by omega)
  have c7 := fun W h => meet_any a b la lb W (H.out W h).1 (H.out W h).2 hla hlb
  have c8 := fun W h => refmeet_any a b la lb W (H.out W h).1 (H.out W h).2 hla hlb
  have c9 := fun W h => sub_any a b la lb W (H.out W h).1 (H.out W h).2 hla hlb
  have c10 := fun W h => refsub_any a b la lb W (H.out W h).1 (H.out W h).2 (by omega) (by omega)
  have f1 := normV_few la
  have f2 := joinL_few la lb
  have f3 := meetL_few la lb
  generalize setL (normL la) = s1 at c1 c2
  generalize joinOk la lb = s2 at c3 c4
  generalize setL la = s3 at c5 c6
  generalize hs4 : decide (∀ x ∈ la, x ∈ lb) = s4 at c9 c10
  clear hs4
  generalize normV la = l1 at c1 c2 f1
  generalize joinL la lb = l2 at c3 c4 f2
  generalize meetL la lb = l3 at c7 c8 f3
  have C1 := Lib.hid c1
  have C2 := Lib.hid c2
  have C3 := Lib.hid c3
  have C4 := Lib.hid c4
  have C5 := Lib.hid c5
  have C6 := Lib.hid c6
  have C7 := Lib.hid c7
  have C8 := Lib.hid c8
  have C9 := Lib.hid c9
  have C10 := Lib.hid c10
  obtain ⟨F⟩ : Nonempty Nat := ⟨0⟩
  clear c1 c2 c3 c4 c5 c6 c7 c8 c9 c10 hA ha hb H
  go_enter Try.func4, Try.ntmps4
  go_wp2_with (first
    | (go_at_call 12; refine C1.out.mono ?_; rintro e w1 ⟨v1, rfl, i1, k1⟩)
    | (go_at_call 14; refine (C2.out w1 k1).mono ?_; rintro e w2 ⟨v2, rfl, i2, b2⟩; have k2 := k1.trans (b2.mono k1.size); have j1 := i1.below b2 (Nat.le_refl _))
    | (go_at_call 15; refine (C3.out w2 k2).mono ?_; rintro e w3 ⟨v3, rfl, i3, b3⟩; have k3 := k2.trans (b3.mono k2.size); have g1 := j1.below b3 (Nat.le_refl _); have g2 := i2.below b3 (Nat.le_refl _))
    | (go_at_call 16; refine (C4.out w3 k3).mono ?_; rintro e w4 ⟨v4, rfl, i4, b4⟩; have k4 := k3.trans (b4.mono k3.size); have h1 := g1.below b4 (Nat.le_refl _); have h2 := g2.below b4 (Nat.le_refl _); have h3 := i3.below b4 (Nat.le_refl _))
    | (go_at_call 9; refine (C5.out w4 k4).mono ?_; rintro e w5 ⟨rfl, rfl⟩)
    | (go_at_call 17; refine (C6.out w5 k4).mono ?_; rintro e w6 ⟨rfl, m6, rfl⟩)
    | (go_at_call 13; have G := F; clear F; refine (same_one _ _ l1 _ (h1.drewN m6) (h2.drewN m6) f1).mono ?_; rintro e w7 ⟨rfl, m7, rfl⟩)
    | (go_at_call 13; have G2 := G; clear G; refine (same_one _ _ l2 _ (h3.drewN (m6 + m7)) (i4.drewN (m6 + m7)) f2).mono ?_; rintro e w8 ⟨rfl, m8, rfl⟩; have k8 := below_drawn k4 (m6 + m7 + m8))
    | (go_at_call 18; refine (C7.out _ k8).mono ?_; rintro e w9 ⟨v9, rfl, i9, b9⟩; have k9 := k8.trans (b9.mono k8.size))
    | (go_at_call 19; refine (C8.out _ k9).mono ?_; rintro e w10 ⟨v10, rfl, i10, b10⟩; have k10 := k9.trans (b10.mono k9.size); have j9 := i9.below b10 (Nat.le_refl _))
    | (go_at_call 13; refine (same_one _ _ l3 _ j9 i10 f3).mono ?_; rintro e w11 ⟨rfl, m11, rfl⟩; have k11 := below_drawn k10 m11)
    | (go_at_call 20; refine (C9.out _ k11).mono ?_; rintro e w12 ⟨rfl, b12⟩; have k12 := k11.trans (b12.mono k11.size))
    | (go_at_call 21; refine (C10.out _ k12).mono ?_; rintro e w13 ⟨rfl, rfl⟩)
    | (go_at_call 11; refine (awake3_any _).mono ?_; rintro e w14 ⟨rfl, b14⟩; have k14 := k12.trans (b14.mono k12.size)))
  go_ret
  exact ⟨by simp, k14⟩
end Go.Proofs.Ytgkpdkdkpmkgdaa
