/- The reference's May, Same, Flows, Within, SameCaps. -/
import Derived.BigQuiet
import Derived.Test.YtmphnoabkmoafaaGreatDoorM1
import Derived.Test.YtmphnoabkmoafaaGreatDoorM43
import Derived.Test.YtmphnoabkmoafaaGreatDoorM45
import Derived.Test.YtmphnoabkmoafaaGreatDoorM5
namespace Go.Proofs.YtmphnoabkmoafaaGreatDoor
open Go.RowKit
variable {uu0 : Unit} [Base uu0]
theorem drewn_below (w : World) (n : Nat) : Below w.heap.size w (w.drewN n) := ⟨rfl, rfl, rfl, Nat.le_refl _, fun _ _ => rfl⟩
set_option maxRecDepth 100000 in
set_option maxHeartbeats 2000000 in
theorem refmay_any (a b : Value) (la lb : List Int) (w : World) (ha : IntsAt w a la) (hb : IntsAt w b lb) (na : la.length ≤ 17592186043904) (nb : lb.length ≤ 17592186043904) :
    Calls Tryz.prog 80 #[.agg #[a, b]] w fun e w' => e = .returned (.bool (setL la && setL lb)) ∧ Below w.heap.size w w' := by
  obtain ⟨aoa, ca, ma, hva⟩ : ∃ (ao' : Option Addr) (c' m' : Nat), a = .slice ao' m' c' := by obtain ⟨ao', c', h'⟩ := ha.shape; exact ⟨ao', c', _, h'⟩
  obtain ⟨aob, cb, mb, hvb⟩ : ∃ (ao' : Option Addr) (c' m' : Nat), b = .slice ao' m' c' := by obtain ⟨ao', c', h'⟩ := hb.shape; exact ⟨ao', c', _, h'⟩
  subst hva hvb
  obtain ⟨W, hW, hbel, hWs, hcell⟩ := box1 w (.slice aoa ma ca) (.slice aob mb cb) 32
  have hI : ∀ W', Below W.heap.size W W' → IntsAt W' (.slice aoa ma ca) la ∧ IntsAt W' (.slice aob mb cb) lb ∧ True := fun W' h =>
    have k := hbel.trans (h.mono hbel.size)
    ⟨ha.below k (Nat.le_refl _), hb.below k (Nat.le_refl _), trivial⟩
  have k0 : ∃ s, s = (setL la) ∧ ∀ W', Below W.heap.size W W' → Calls Tryz.prog 90 #[.slice aoa ma ca] W' fun e w' => e = .returned (.bool s) ∧ Below W'.heap.size W' w' := ⟨_, rfl, fun W' h => (refset_any _ la W' (hI W' h).1 (by omega)).mono fun e w' ⟨h1, h2⟩ => ⟨h1, by obtain ⟨n, h2⟩ := h2; rw [h2]; exact drewn_below _ _⟩⟩
  obtain ⟨s0, hs0, k0⟩ := k0
  have k1 : ∃ s, s = (setL lb) ∧ ∀ W', Below W.heap.size W W' → Calls Tryz.prog 90 #[.slice aob mb cb] W' fun e w' => e = .returned (.bool s) ∧ Below W'.heap.size W' w' := ⟨_, rfl, fun W' h => (refset_any _ lb W' (hI W' h).2.1 (by omega)).mono fun e w' ⟨h1, h2⟩ => ⟨h1, by obtain ⟨n, h2⟩ := h2; rw [h2]; exact drewn_below _ _⟩⟩
  obtain ⟨s1, hs1, k1⟩ := k1
  have hgoal : (setL la && setL lb) = (s0 && s1) := by rw [← hs0, ← hs1]
  rw [hgoal]
  subst hW
  have K0 := Lib.hid k0
  have K1 := Lib.hid k1
  have HC := Lib.hid hcell
  have HB := Lib.hid hbel
  obtain ⟨G0⟩ : Nonempty Nat := ⟨0⟩
  clear hgoal hcell hI hWs hbel hs0 k0 hs1 k1 ha hb na nb
  go_enter Tryz.func80, Tryz.ntmps80
  go_wp2_with (first
    | (go_at_call 90; have G1 := G0; clear G0; refine (K0.out _ (Below.refl _ _)).mono ?_; rintro e w1 ⟨rfl, b1⟩; have j1 := b1; obtain ⟨d1_0, d1_1⟩ := HC.out w1 j1)
    | (go_at_call 90; have G2 := G1; clear G1; refine (K1.out w1 j1).mono ?_; rintro e w2 ⟨rfl, b2⟩; have j2 := j1.trans (b2.mono j1.size); obtain ⟨d2_0, d2_1⟩ := HC.out w2 j2))
  all_goals
    go_ret
    first
      | exact ⟨by first | rfl | simp [*], HB.out.trans (j2.mono HB.out.size)⟩
      | exact ⟨by first | rfl | simp [*], HB.out.trans (j1.mono HB.out.size)⟩
set_option maxRecDepth 100000 in
set_option maxHeartbeats 2000000 in
theorem refsame_any (a b c d : Value) (la lb lc ld : List Int) (w : World) (ha : IntsAt w a la) (hb : IntsAt w b lb) (hc : IntsAt w c lc) (hd : IntsAt w d ld) (na : la.length ≤ 17592186043904) (nb : lb.length ≤ 17592186043904) (nc : lc.length ≤ 17592186043904) (nd : ld.length ≤ 17592186043904) :
    Calls Tryz.prog 38 #[.agg #[a, b], .agg #[c, d]] w fun e w' => e = .returned (.bool (decide (la = lc) && decide (lb = ld))) ∧ Below w.heap.size w w' := by
  obtain ⟨aoa, ca, ma, hva⟩ : ∃ (ao' : Option Addr) (c' m' : Nat), a = .slice ao' m' c' := by obtain ⟨ao', c', h'⟩ := ha.shape; exact ⟨ao', c', _, h'⟩
  obtain ⟨aob, cb, mb, hvb⟩ : ∃ (ao' : Option Addr) (c' m' : Nat), b = .slice ao' m' c' := by obtain ⟨ao', c', h'⟩ := hb.shape; exact ⟨ao', c', _, h'⟩
  obtain ⟨aoc, cc, mc, hvc⟩ : ∃ (ao' : Option Addr) (c' m' : Nat), c = .slice ao' m' c' := by obtain ⟨ao', c', h'⟩ := hc.shape; exact ⟨ao', c', _, h'⟩
  obtain ⟨aod, cd, md, hvd⟩ : ∃ (ao' : Option Addr) (c' m' : Nat), d = .slice ao' m' c' := by obtain ⟨ao', c', h'⟩ := hd.shape; exact ⟨ao', c', _, h'⟩
  subst hva hvb hvc hvd
  obtain ⟨W, hW, hbel, hWs, hcell⟩ := box2 w (.slice aoa ma ca) (.slice aob mb cb) (.slice aoc mc cc) (.slice aod md cd) 32 32
  have hI : ∀ W', Below W.heap.size W W' → IntsAt W' (.slice aoa ma ca) la ∧ IntsAt W' (.slice aob mb cb) lb ∧ IntsAt W' (.slice aoc mc cc) lc ∧ IntsAt W' (.slice aod md cd) ld ∧ True := fun W' h =>
    have k := hbel.trans (h.mono hbel.size)
    ⟨ha.below k (Nat.le_refl _), hb.below k (Nat.le_refl _), hc.below k (Nat.le_refl _), hd.below k (Nat.le_refl _), trivial⟩
  have k0 : ∃ s, s = (decide (la = lc)) ∧ ∀ W', Below W.heap.size W W' → Calls Tryz.prog 56 #[.slice aoa ma ca, .slice aoc mc cc] W' fun e w' => e = .returned (.bool s) ∧ Below W'.heap.size W' w' := ⟨_, rfl, fun W' h => (same_any _ _ la lc W' (hI W' h).1 (hI W' h).2.2.1 (by omega) (by omega)).mono fun e w' ⟨h1, h2⟩ => ⟨h1, by obtain ⟨n, h2⟩ := h2; rw [h2]; exact drewn_below _ _⟩⟩
  obtain ⟨s0, hs0, k0⟩ := k0
  have k1 : ∃ s, s = (decide (lb = ld)) ∧ ∀ W', Below W.heap.size W W' → Calls Tryz.prog 56 #[.slice aob mb cb, .slice aod md cd] W' fun e w' => e = .returned (.bool s) ∧ Below W'.heap.size W' w' := ⟨_, rfl, fun W' h => (same_any _ _ lb ld W' (hI W' h).2.1 (hI W' h).2.2.2.1 (by omega) (by omega)).mono fun e w' ⟨h1, h2⟩ => ⟨h1, by obtain ⟨n, h2⟩ := h2; rw [h2]; exact drewn_below _ _⟩⟩
  obtain ⟨s1, hs1, k1⟩ := k1
  have hgoal : (decide (la = lc) && decide (lb = ld)) = (s0 && s1) := by rw [← hs0, ← hs1]
  rw [hgoal]
  subst hW
  have K0 := Lib.hid k0
  have K1 := Lib.hid k1
  have HC := Lib.hid hcell
  have HB := Lib.hid hbel
  obtain ⟨G0⟩ : Nonempty Nat := ⟨0⟩
  clear hgoal hcell hI hWs hbel hs0 k0 hs1 k1 ha hb hc hd na nb nc nd
  go_enter Tryz.func38, Tryz.ntmps38
  go_wp2_with (first
    | (go_at_call 56; have G1 := G0; clear G0; refine (K0.out _ (Below.refl _ _)).mono ?_; rintro e w1 ⟨rfl, b1⟩; have j1 := b1; obtain ⟨d1_0, d1_1, d1_2, d1_3⟩ := HC.out w1 j1)
    | (go_at_call 56; have G2 := G1; clear G1; refine (K1.out w1 j1).mono ?_; rintro e w2 ⟨rfl, b2⟩; have j2 := j1.trans (b2.mono j1.size); obtain ⟨d2_0, d2_1, d2_2, d2_3⟩ := HC.out w2 j2))
  all_goals
    go_ret
    first
      | exact ⟨by first | rfl | simp [*], HB.out.trans (j2.mono HB.out.size)⟩
      | exact ⟨by first | rfl | simp [*], HB.out.trans (j1.mono HB.out.size)⟩
set_option maxRecDepth 100000 in
set_option maxHeartbeats 2000000 in
theorem refflows_any (a b c d : Value) (la lb lc ld : List Int) (w : World) (ha : IntsAt w a la) (hb : IntsAt w b lb) (hc : IntsAt w c lc) (hd : IntsAt w d ld) (na : la.length ≤ 17592186043904) (nb : lb.length ≤ 17592186043904) (nc : lc.length ≤ 17592186043904) (nd : ld.length ≤ 17592186043904) :
    Calls Tryz.prog 78 #[.agg #[a, b], .agg #[c, d]] w fun e w' => e = .returned (.bool (subL la lc && subL ld lb)) ∧ Below w.heap.size w w' := by
  obtain ⟨aoa, ca, ma, hva⟩ : ∃ (ao' : Option Addr) (c' m' : Nat), a = .slice ao' m' c' := by obtain ⟨ao', c', h'⟩ := ha.shape; exact ⟨ao', c', _, h'⟩
  obtain ⟨aob, cb, mb, hvb⟩ : ∃ (ao' : Option Addr) (c' m' : Nat), b = .slice ao' m' c' := by obtain ⟨ao', c', h'⟩ := hb.shape; exact ⟨ao', c', _, h'⟩
  obtain ⟨aoc, cc, mc, hvc⟩ : ∃ (ao' : Option Addr) (c' m' : Nat), c = .slice ao' m' c' := by obtain ⟨ao', c', h'⟩ := hc.shape; exact ⟨ao', c', _, h'⟩
  obtain ⟨aod, cd, md, hvd⟩ : ∃ (ao' : Option Addr) (c' m' : Nat), d = .slice ao' m' c' := by obtain ⟨ao', c', h'⟩ := hd.shape; exact ⟨ao', c', _, h'⟩
  subst hva hvb hvc hvd
  obtain ⟨W, hW, hbel, hWs, hcell⟩ := box2 w (.slice aoa ma ca) (.slice aob mb cb) (.slice aoc mc cc) (.slice aod md cd) 32 32
  have hI : ∀ W', Below W.heap.size W W' → IntsAt W' (.slice aoa ma ca) la ∧ IntsAt W' (.slice aob mb cb) lb ∧ IntsAt W' (.slice aoc mc cc) lc ∧ IntsAt W' (.slice aod md cd) ld ∧ True := fun W' h =>
    have k := hbel.trans (h.mono hbel.size)
    ⟨ha.below k (Nat.le_refl _), hb.below k (Nat.le_refl _), hc.below k (Nat.le_refl _), hd.below k (Nat.le_refl _), trivial⟩
  have k0 : ∃ s, s = (subL la lc) ∧ ∀ W', Below W.heap.size W W' → Calls Tryz.prog 55 #[.slice aoa ma ca, .slice aoc mc cc] W' fun e w' => e = .returned (.bool s) ∧ Below W'.heap.size W' w' := ⟨_, rfl, fun W' h => (refsub_any _ _ la lc W' (hI W' h).1 (hI W' h).2.2.1 (by omega) (by omega)).mono fun e w' ⟨h1, h2⟩ => ⟨h1, by rw [h2]; exact Below.refl _ _⟩⟩
  obtain ⟨s0, hs0, k0⟩ := k0
  have k1 : ∃ s, s = (subL ld lb) ∧ ∀ W', Below W.heap.size W W' → Calls Tryz.prog 55 #[.slice aod md cd, .slice aob mb cb] W' fun e w' => e = .returned (.bool s) ∧ Below W'.heap.size W' w' := ⟨_, rfl, fun W' h => (refsub_any _ _ ld lb W' (hI W' h).2.2.2.1 (hI W' h).2.1 (by omega) (by omega)).mono fun e w' ⟨h1, h2⟩ => ⟨h1, by rw [h2]; exact Below.refl _ _⟩⟩
  obtain ⟨s1, hs1, k1⟩ := k1
  have hgoal : (subL la lc && subL ld lb) = (s0 && s1) := by rw [← hs0, ← hs1]
  rw [hgoal]
  subst hW
  have K0 := Lib.hid k0
  have K1 := Lib.hid k1
  have HC := Lib.hid hcell
  have HB := Lib.hid hbel
  obtain ⟨G0⟩ : Nonempty Nat := ⟨0⟩
  clear hgoal hcell hI hWs hbel hs0 k0 hs1 k1 ha hb hc hd na nb nc nd
  go_enter Tryz.func78, Tryz.ntmps78
  go_wp2_with (first
    | (go_at_call 55; have G1 := G0; clear G0; refine (K0.out _ (Below.refl _ _)).mono ?_; rintro e w1 ⟨rfl, b1⟩; have j1 := b1; obtain ⟨d1_0, d1_1, d1_2, d1_3⟩ := HC.out w1 j1)
    | (go_at_call 55; have G2 := G1; clear G1; refine (K1.out w1 j1).mono ?_; rintro e w2 ⟨rfl, b2⟩; have j2 := j1.trans (b2.mono j1.size); obtain ⟨d2_0, d2_1, d2_2, d2_3⟩ := HC.out w2 j2))
  all_goals
    go_ret
    first
      | exact ⟨by first | rfl | simp [*], HB.out.trans (j2.mono HB.out.size)⟩
      | exact ⟨by first | rfl | simp [*], HB.out.trans (j1.mono HB.out.size)⟩
set_option maxRecDepth 100000 in
set_option maxHeartbeats 2000000 in
theorem refwithin_any (a b c d : Value) (la lb lc ld : List Int) (w : World) (ha : IntsAt w a la) (hb : IntsAt w b lb) (hc : IntsAt w c lc) (hd : IntsAt w d ld) (na : la.length ≤ 17592186043904) (nb : lb.length ≤ 17592186043904) (nc : lc.length ≤ 17592186043904) (nd : ld.length ≤ 17592186043904) :
    Calls Tryz.prog 21 #[.agg #[a, b], .agg #[c, d]] w fun e w' => e = .returned (.bool (subL la lc && subL lb ld)) ∧ Below w.heap.size w w' := by
  obtain ⟨aoa, ca, ma, hva⟩ : ∃ (ao' : Option Addr) (c' m' : Nat), a = .slice ao' m' c' := by obtain ⟨ao', c', h'⟩ := ha.shape; exact ⟨ao', c', _, h'⟩
  obtain ⟨aob, cb, mb, hvb⟩ : ∃ (ao' : Option Addr) (c' m' : Nat), b = .slice ao' m' c' := by obtain ⟨ao', c', h'⟩ := hb.shape; exact ⟨ao', c', _, h'⟩
  obtain ⟨aoc, cc, mc, hvc⟩ : ∃ (ao' : Option Addr) (c' m' : Nat), c = .slice ao' m' c' := by obtain ⟨ao', c', h'⟩ := hc.shape; exact ⟨ao', c', _, h'⟩
  obtain ⟨aod, cd, md, hvd⟩ : ∃ (ao' : Option Addr) (c' m' : Nat), d = .slice ao' m' c' := by obtain ⟨ao', c', h'⟩ := hd.shape; exact ⟨ao', c', _, h'⟩
  subst hva hvb hvc hvd
  obtain ⟨W, hW, hbel, hWs, hcell⟩ := box2 w (.slice aoa ma ca) (.slice aob mb cb) (.slice aoc mc cc) (.slice aod md cd) 34 34
  have hI : ∀ W', Below W.heap.size W W' → IntsAt W' (.slice aoa ma ca) la ∧ IntsAt W' (.slice aob mb cb) lb ∧ IntsAt W' (.slice aoc mc cc) lc ∧ IntsAt W' (.slice aod md cd) ld ∧ True := fun W' h =>
    have k := hbel.trans (h.mono hbel.size)
    ⟨ha.below k (Nat.le_refl _), hb.below k (Nat.le_refl _), hc.below k (Nat.le_refl _), hd.below k (Nat.le_refl _), trivial⟩
  have k0 : ∃ s, s = (subL la lc) ∧ ∀ W', Below W.heap.size W W' → Calls Tryz.prog 55 #[.slice aoa ma ca, .slice aoc mc cc] W' fun e w' => e = .returned (.bool s) ∧ Below W'.heap.size W' w' := ⟨_, rfl, fun W' h => (refsub_any _ _ la lc W' (hI W' h).1 (hI W' h).2.2.1 (by omega) (by omega)).mono fun e w' ⟨h1, h2⟩ => ⟨h1, by rw [h2]; exact Below.refl _ _⟩⟩
  obtain ⟨s0, hs0, k0⟩ := k0
  have k1 : ∃ s, s = (subL lb ld) ∧ ∀ W', Below W.heap.size W W' → Calls Tryz.prog 55 #[.slice aob mb cb, .slice aod md cd] W' fun e w' => e = .returned (.bool s) ∧ Below W'.heap.size W' w' := ⟨_, rfl, fun W' h => (refsub_any _ _ lb ld W' (hI W' h).2.1 (hI W' h).2.2.2.1 (by omega) (by omega)).mono fun e w' ⟨h1, h2⟩ => ⟨h1, by rw [h2]; exact Below.refl _ _⟩⟩
  obtain ⟨s1, hs1, k1⟩ := k1
  have hgoal : (subL la lc && subL lb ld) = (s0 && s1) := by rw [← hs0, ← hs1]
  rw [hgoal]
  subst hW
  have K0 := Lib.hid k0
  have K1 := Lib.hid k1
  have HC := Lib.hid hcell
  have HB := Lib.hid hbel
  obtain ⟨G0⟩ : Nonempty Nat := ⟨0⟩
  clear hgoal hcell hI hWs hbel hs0 k0 hs1 k1 ha hb hc hd na nb nc nd
  go_enter Tryz.func21, Tryz.ntmps21
  go_wp2_with (first
    | (go_at_call 55; have G1 := G0; clear G0; refine (K0.out _ (Below.refl _ _)).mono ?_; rintro e w1 ⟨rfl, b1⟩; have j1 := b1; obtain ⟨d1_0, d1_1, d1_2, d1_3⟩ := HC.out w1 j1)
    | (go_at_call 55; have G2 := G1; clear G1; refine (K1.out w1 j1).mono ?_; rintro e w2 ⟨rfl, b2⟩; have j2 := j1.trans (b2.mono j1.size); obtain ⟨d2_0, d2_1, d2_2, d2_3⟩ := HC.out w2 j2))
  all_goals
    go_ret
    first
      | exact ⟨by first | rfl | simp [*], HB.out.trans (j2.mono HB.out.size)⟩
      | exact ⟨by first | rfl | simp [*], HB.out.trans (j1.mono HB.out.size)⟩
set_option maxRecDepth 100000 in
set_option maxHeartbeats 2000000 in
theorem samecaps_any (a b c d : Value) (la lb lc ld : List Int) (w : World) (ha : IntsAt w a la) (hb : IntsAt w b lb) (hc : IntsAt w c lc) (hd : IntsAt w d ld) (na : la.length ≤ 17592186043904) (nb : lb.length ≤ 17592186043904) (nc : lc.length ≤ 17592186043904) (nd : ld.length ≤ 17592186043904) :
    Calls Tryz.prog 22 #[.agg #[a, b], .agg #[c, d]] w fun e w' => e = .returned (.bool (decide (la = lc) && decide (lb = ld))) ∧ Below w.heap.size w w' := by
  obtain ⟨aoa, ca, ma, hva⟩ : ∃ (ao' : Option Addr) (c' m' : Nat), a = .slice ao' m' c' := by obtain ⟨ao', c', h'⟩ := ha.shape; exact ⟨ao', c', _, h'⟩
  obtain ⟨aob, cb, mb, hvb⟩ : ∃ (ao' : Option Addr) (c' m' : Nat), b = .slice ao' m' c' := by obtain ⟨ao', c', h'⟩ := hb.shape; exact ⟨ao', c', _, h'⟩
  obtain ⟨aoc, cc, mc, hvc⟩ : ∃ (ao' : Option Addr) (c' m' : Nat), c = .slice ao' m' c' := by obtain ⟨ao', c', h'⟩ := hc.shape; exact ⟨ao', c', _, h'⟩
  obtain ⟨aod, cd, md, hvd⟩ : ∃ (ao' : Option Addr) (c' m' : Nat), d = .slice ao' m' c' := by obtain ⟨ao', c', h'⟩ := hd.shape; exact ⟨ao', c', _, h'⟩
  subst hva hvb hvc hvd
  obtain ⟨W, hW, hbel, hWs, hcell⟩ := box2 w (.slice aoa ma ca) (.slice aob mb cb) (.slice aoc mc cc) (.slice aod md cd) 34 34
  have hI : ∀ W', Below W.heap.size W W' → IntsAt W' (.slice aoa ma ca) la ∧ IntsAt W' (.slice aob mb cb) lb ∧ IntsAt W' (.slice aoc mc cc) lc ∧ IntsAt W' (.slice aod md cd) ld ∧ True := fun W' h =>
    have k := hbel.trans (h.mono hbel.size)
    ⟨ha.below k (Nat.le_refl _), hb.below k (Nat.le_refl _), hc.below k (Nat.le_refl _), hd.below k (Nat.le_refl _), trivial⟩
  have k0 : ∃ s, s = (decide (la = lc)) ∧ ∀ W', Below W.heap.size W W' → Calls Tryz.prog 56 #[.slice aoa ma ca, .slice aoc mc cc] W' fun e w' => e = .returned (.bool s) ∧ Below W'.heap.size W' w' := ⟨_, rfl, fun W' h => (same_any _ _ la lc W' (hI W' h).1 (hI W' h).2.2.1 (by omega) (by omega)).mono fun e w' ⟨h1, h2⟩ => ⟨h1, by obtain ⟨n, h2⟩ := h2; rw [h2]; exact drewn_below _ _⟩⟩
  obtain ⟨s0, hs0, k0⟩ := k0
  have k1 : ∃ s, s = (decide (lb = ld)) ∧ ∀ W', Below W.heap.size W W' → Calls Tryz.prog 56 #[.slice aob mb cb, .slice aod md cd] W' fun e w' => e = .returned (.bool s) ∧ Below W'.heap.size W' w' := ⟨_, rfl, fun W' h => (same_any _ _ lb ld W' (hI W' h).2.1 (hI W' h).2.2.2.1 (by omega) (by omega)).mono fun e w' ⟨h1, h2⟩ => ⟨h1, by obtain ⟨n, h2⟩ := h2; rw [h2]; exact drewn_below _ _⟩⟩
  obtain ⟨s1, hs1, k1⟩ := k1
  have hgoal : (decide (la = lc) && decide (lb = ld)) = (s0 && s1) := by rw [← hs0, ← hs1]
  rw [hgoal]
  subst hW
  have K0 := Lib.hid k0
  have K1 := Lib.hid k1
  have HC := Lib.hid hcell
  have HB := Lib.hid hbel
  obtain ⟨G0⟩ : Nonempty Nat := ⟨0⟩
  clear hgoal hcell hI hWs hbel hs0 k0 hs1 k1 ha hb hc hd na nb nc nd
  go_enter Tryz.func22, Tryz.ntmps22
  go_wp2_with (first
    | (go_at_call 56; have G1 := G0; clear G0; refine (K0.out _ (Below.refl _ _)).mono ?_; rintro e w1 ⟨rfl, b1⟩; have j1 := b1; obtain ⟨d1_0, d1_1, d1_2, d1_3⟩ := HC.out w1 j1)
    | (go_at_call 56; have G2 := G1; clear G1; refine (K1.out w1 j1).mono ?_; rintro e w2 ⟨rfl, b2⟩; have j2 := j1.trans (b2.mono j1.size); obtain ⟨d2_0, d2_1, d2_2, d2_3⟩ := HC.out w2 j2))
  all_goals
    go_ret
    first
      | exact ⟨by first | rfl | simp [*], HB.out.trans (j2.mono HB.out.size)⟩
      | exact ⟨by first | rfl | simp [*], HB.out.trans (j1.mono HB.out.size)⟩
end Go.Proofs.YtmphnoabkmoafaaGreatDoor
