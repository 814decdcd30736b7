/- label.Low, and the reference's Low and Change. -/
import Derived.BigQuiet
import Derived.Deep.RegionHeld3
import Derived.Test.YtgkpdkdkpmkgdaaLess
import Derived.Test.YtgkpdkdkpmkgdaaWrapB
import Derived.Test.YtgkpdkdkpmkgdaaRefSafe
namespace Go.Proofs.Ytgkpdkdkpmkgdaa
open Go.RowKit
set_option linter.unusedVariables false
set_option maxRecDepth 100000 in
set_option maxHeartbeats 2000000 in
/-- None of a list is in another one. -/
theorem low_any (a b t : Value) (la lb lt : List Int) (w : World) (ha : IntsAt w a la) (hb : IntsAt w b lb) (ht : IntsAt w t lt) (na : la.length ≤ 17592186043904) (nb : lb.length ≤ 17592186043904) (nt : lt.length ≤ 17592186043904) :
    Calls Try.prog 38 #[.agg #[a, b], t] w fun e w' => e = .returned (.bool (decide (∀ x ∈ la, ¬ x ∈ lt))) ∧ Below w.heap.size w w' := by
  obtain ⟨aoa, ma, ca, rfl⟩ := ha.shape3
  obtain ⟨aob, mb, cb, rfl⟩ := hb.shape3
  obtain ⟨aot, mt, ct, rfl⟩ := ht.shape3
  obtain ⟨W, hW, hbel, hWs, hcell⟩ := box1 w (.slice aoa ma ca) (.slice aob mb cb) 26
  have c1 := someIn_any _ _ lt la W (ht.below hbel (Nat.le_refl _)) (ha.below hbel (Nat.le_refl _)) nt na
  obtain ⟨l, hl⟩ : ∃ l, l = lt.filter (fun x => decide (x ∈ la)) := ⟨_, rfl⟩
  have HL : Hid (decide (l.length = 0) = decide (∀ x ∈ la, ¬ x ∈ lt)) := by
    show _ = _
    rw [decide_eq_decide]
    constructor
    · intro h x hx hxt
      have : x ∈ l := by rw [hl]; simp [hx, hxt]
      rw [List.eq_nil_of_length_eq_zero h] at this; cases this
    · intro h
      rw [hl]
      refine List.length_eq_zero_iff.2 (List.filter_eq_nil_iff.2 fun x hx => ?_)
      simpa using fun hxa => h x hxa hx
  rw [← hl] at c1
  subst hW
  have C1 := Lib.hid c1
  have HB := Lib.hid hbel
  clear c1 hl ha hb ht hbel hWs hcell
  go_enter Try.func38, Try.ntmps38
  go_wp2_with (go_at_call 52; refine C1.out.mono ?_; rintro e w1 ⟨v1, rfl, h1, b1⟩; obtain ⟨ao1, c1, rfl⟩ := h1.shape)
  go_ret
  exact ⟨by rw [← HL.out]; rcases l with _ | ⟨x, l⟩ <;> simp <;> omega, HB.out.trans (b1.mono HB.out.size)⟩
set_option maxRecDepth 100000 in
set_option maxHeartbeats 2000000 in
theorem reflow_any (a b t : Value) (la lb lt : List Int) (w : World) (ha : IntsAt w a la) (hb : IntsAt w b lb) (ht : IntsAt w t lt) (na : la.length ≤ 17592186043904) (nb : lb.length ≤ 17592186043904) (nt : lt.length ≤ 17592186043904) :
    Calls Try.prog 39 #[.agg #[a, b], t] w fun e w' => e = .returned (.bool (decide (∀ x ∈ la, ¬ x ∈ lt))) ∧ Below w.heap.size w w' := by
  obtain ⟨aoa, ca, hva⟩ := ha.shape
  subst hva
  obtain ⟨ma, hma⟩ : ∃ n, n = la.length := ⟨_, rfl⟩
  rw [← hma] at ha na ⊢
  obtain ⟨aob, mb, cb, rfl⟩ := hb.shape3
  obtain ⟨aot, mt, ct, rfl⟩ := ht.shape3
  obtain ⟨W, hW, hbel, hWs, hcell⟩ := box1 w (.slice aoa ma ca) (.slice aob mb cb) 26
  have hdr : Below W.heap.size W W.drew := ⟨rfl, rfl, rfl, Nat.le_refl _, fun _ _ => rfl⟩
  have c1 := fun W' h => without_any _ _ la lt W' ((ha.below hbel (Nat.le_refl _)).below (B := W.heap.size) h (Nat.le_refl _)) ((ht.below hbel (Nat.le_refl _)).below (B := W.heap.size) h (Nat.le_refl _)) (by rw [← hma]; exact na) nt
  obtain ⟨l, hl⟩ : ∃ l, l = lessL la lt := ⟨_, rfl⟩
  obtain ⟨n, hn⟩ : ∃ n, n = l.length := ⟨_, rfl⟩
  have HL : Hid (decide (n = ma) = decide (∀ x ∈ la, ¬ x ∈ lt)) := by
    show _ = _
    rw [decide_eq_decide, hn, hl, hma]
    unfold lessL
    constructor
    · intro h x hx hxt
      have := List.length_filter_eq_length_iff.1 h x hx
      simp [hxt] at this
    · intro h
      exact List.length_filter_eq_length_iff.2 fun x hx => by simpa using h x hx
  have hln : Hid (l.length = n) := hn.symm
  rw [← hl] at c1
  have C1 := Lib.hid c1
  have HB := Lib.hid hbel
  have HS : Hid (∀ w', Below W.heap.size W w' → Below W.heap.size W w' ∧ w'.cell? ⟨w.heap.size, 0, none⟩ = some (.slice aoa ma ca)) := Lib.hid fun w' h => ⟨h, (hcell w' h).1⟩
  have HD := Lib.hid hdr
  obtain ⟨r, hr⟩ : ∃ r, r = decide (∀ x ∈ la, ¬ x ∈ lt) := ⟨_, rfl⟩
  rw [← hr] at HL ⊢
  have z0 := (hcell W.drew hdr).1
  clear c1 hl hn hma ha hb ht hbel hWs hcell hr hdr
  go_enter Try.func39, Try.ntmps39
  go_wp2
  rw [← hW]
  clear hW
  go_region_held3 (fun w' => Below W.heap.size W w' ∧ w'.cell? ⟨w.heap.size, 0, none⟩ = some (.slice aoa ma ca)) (first | exact HS.out _ HD.out | exact HS.out _ j1 | go_keep) ((first
    | (go_at_call 55; refine (C1.out _ HD.out).mono ?_; rintro e w1 ⟨v1, rfl, i1, b1⟩; have j1 : Below W.heap.size W w1 := HD.out.trans (b1.mono HD.out.size); have d1 := (HS.out w1 j1).2; obtain ⟨ao1, c1, hv1⟩ := i1.shape; rw [hln.out] at hv1; subst hv1)))
  all_goals
    go_wp2
    go_ret
    refine ⟨?_, HB.out.trans (j1.mono HB.out.size)⟩
    rw [← HL.out]
    by_cases h : n = ma
    · simp [h]
    · simp [h]
      omega
set_option maxRecDepth 100000 in
set_option maxHeartbeats 2000000 in
theorem refchange_any (a b c d e f : Value) (la lb lc ld le lf : List Int) (w : World) (ha : IntsAt w a la) (hb : IntsAt w b lb) (hc : IntsAt w c lc) (hd : IntsAt w d ld) (he : IntsAt w e le) (hf : IntsAt w f lf) (na : la.length ≤ 17592186043904) (nb : lb.length ≤ 17592186043904) (nc : lc.length ≤ 17592186043904) (nd : ld.length ≤ 17592186043904) (ne : le.length ≤ 17592186043904) (nf : lf.length ≤ 17592186043904) :
    Calls Try.prog 34 #[.agg #[a, b], .agg #[c, d], .agg #[e, f]] w fun e w' => e = .returned (.bool (setL lc && setL ld && safeL la lc le lf && safeL lb ld le lf)) ∧ Below w.heap.size w w' := by
  obtain ⟨aoa, ca, ma, hva⟩ : ∃ (ao' : Option Addr) (c' m' : Nat), a = .slice ao' m' c' := by obtain ⟨ao', c', h'⟩ := ha.shape; exact ⟨ao', c', _, h'⟩
  obtain ⟨aob, cb, mb, hvb⟩ : ∃ (ao' : Option Addr) (c' m' : Nat), b = .slice ao' m' c' := by obtain ⟨ao', c', h'⟩ := hb.shape; exact ⟨ao', c', _, h'⟩
  obtain ⟨aoc, cc, mc, hvc⟩ : ∃ (ao' : Option Addr) (c' m' : Nat), c = .slice ao' m' c' := by obtain ⟨ao', c', h'⟩ := hc.shape; exact ⟨ao', c', _, h'⟩
  obtain ⟨aod, cd, md, hvd⟩ : ∃ (ao' : Option Addr) (c' m' : Nat), d = .slice ao' m' c' := by obtain ⟨ao', c', h'⟩ := hd.shape; exact ⟨ao', c', _, h'⟩
  obtain ⟨aoe, ce, me, hve⟩ : ∃ (ao' : Option Addr) (c' m' : Nat), e = .slice ao' m' c' := by obtain ⟨ao', c', h'⟩ := he.shape; exact ⟨ao', c', _, h'⟩
  obtain ⟨aof, cf, mf, hvf⟩ : ∃ (ao' : Option Addr) (c' m' : Nat), f = .slice ao' m' c' := by obtain ⟨ao', c', h'⟩ := hf.shape; exact ⟨ao', c', _, h'⟩
  subst hva hvb hvc hvd hve hvf
  obtain ⟨W, hW, hbel, hWs, hcell⟩ := box3 w (.slice aoa ma ca) (.slice aob mb cb) (.slice aoc mc cc) (.slice aod md cd) (.slice aoe me ce) (.slice aof mf cf) 26 26 37
  have hI : ∀ W', Below W.heap.size W W' → IntsAt W' (.slice aoa ma ca) la ∧ IntsAt W' (.slice aob mb cb) lb ∧ IntsAt W' (.slice aoc mc cc) lc ∧ IntsAt W' (.slice aod md cd) ld ∧ IntsAt W' (.slice aoe me ce) le ∧ IntsAt W' (.slice aof mf cf) lf ∧ True := fun W' h =>
    have k := hbel.trans (h.mono hbel.size)
    ⟨ha.below k (Nat.le_refl _), hb.below k (Nat.le_refl _), hc.below k (Nat.le_refl _), hd.below k (Nat.le_refl _), he.below k (Nat.le_refl _), hf.below k (Nat.le_refl _), trivial⟩
  have k0 : ∃ s, s = (setL lc && setL ld) ∧ ∀ W', Below W.heap.size W W' → Calls Try.prog 28 #[.agg #[.slice aoc mc cc, .slice aod md cd]] W' fun e w' => e = .returned (.bool s) ∧ Below W'.heap.size W' w' := ⟨_, rfl, fun W' h => refmay_any _ _ lc ld W' (hI W' h).2.2.1 (hI W' h).2.2.2.1 nc nd⟩
  obtain ⟨s0, hs0, k0⟩ := k0
  have k1 : ∃ s, s = (safeL la lc le lf) ∧ ∀ W', Below W.heap.size W W' → Calls Try.prog 33 #[.slice aoa ma ca, .slice aoc mc cc, .agg #[.slice aoe me ce, .slice aof mf cf]] W' fun e w' => e = .returned (.bool s) ∧ Below W'.heap.size W' w' := ⟨_, rfl, fun W' h => refsafe_any _ _ _ _ la lc le lf W' (hI W' h).1 (hI W' h).2.2.1 (hI W' h).2.2.2.2.1 (hI W' h).2.2.2.2.2.1 na nc ne nf⟩
  obtain ⟨s1, hs1, k1⟩ := k1
  have k2 : ∃ s, s = (safeL lb ld le lf) ∧ ∀ W', Below W.heap.size W W' → Calls Try.prog 33 #[.slice aob mb cb, .slice aod md cd, .agg #[.slice aoe me ce, .slice aof mf cf]] W' fun e w' => e = .returned (.bool s) ∧ Below W'.heap.size W' w' := ⟨_, rfl, fun W' h => refsafe_any _ _ _ _ lb ld le lf W' (hI W' h).2.1 (hI W' h).2.2.2.1 (hI W' h).2.2.2.2.1 (hI W' h).2.2.2.2.2.1 nb nd ne nf⟩
  obtain ⟨s2, hs2, k2⟩ := k2
  have hgoal : (setL lc && setL ld && safeL la lc le lf && safeL lb ld le lf) = (s0 && s1 && s2) := by rw [← hs0, ← hs1, ← hs2]
  rw [hgoal]
  subst hW
  have K0 := Lib.hid k0
  have K1 := Lib.hid k1
  have K2 := Lib.hid k2
  have HC := Lib.hid hcell
  have HB := Lib.hid hbel
  obtain ⟨G0⟩ : Nonempty Nat := ⟨0⟩
  clear hgoal hcell hI hWs hbel hs0 k0 hs1 k1 hs2 k2 ha hb hc hd he hf na nb nc nd ne nf
  go_enter Try.func34, Try.ntmps34
  go_wp2_with (first
    | (go_at_call 28; have G1 := G0; clear G0; refine (K0.out _ (Below.refl _ _)).mono ?_; rintro e w1 ⟨rfl, b1⟩; have j1 := b1; obtain ⟨d1_0, d1_1, d1_2, d1_3, d1_4, d1_5⟩ := HC.out w1 j1)
    | (go_at_call 33; have G2 := G1; clear G1; refine (K1.out w1 j1).mono ?_; rintro e w2 ⟨rfl, b2⟩; have j2 := j1.trans (b2.mono j1.size); obtain ⟨d2_0, d2_1, d2_2, d2_3, d2_4, d2_5⟩ := HC.out w2 j2)
    | (go_at_call 33; have G3 := G2; clear G2; refine (K2.out w2 j2).mono ?_; rintro e w3 ⟨rfl, b3⟩; have j3 := j2.trans (b3.mono j2.size); obtain ⟨d3_0, d3_1, d3_2, d3_3, d3_4, d3_5⟩ := HC.out w3 j3))
  all_goals
    go_ret
    first
      | exact ⟨by first | rfl | simp [*], HB.out.trans (j3.mono HB.out.size)⟩
      | exact ⟨by first | rfl | simp [*], HB.out.trans (j2.mono HB.out.size)⟩
      | exact ⟨by first | rfl | simp [*], HB.out.trans (j1.mono HB.out.size)⟩
end Go.Proofs.Ytgkpdkdkpmkgdaa
