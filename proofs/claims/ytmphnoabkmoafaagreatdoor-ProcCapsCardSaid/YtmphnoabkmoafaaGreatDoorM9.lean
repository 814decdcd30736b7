/- label.Same, Change, Within. -/
import Derived.BigQuiet
import Derived.Test.YtmphnoabkmoafaaGreatDoorM1
import Derived.Test.YtmphnoabkmoafaaGreatDoorM7
namespace Go.Proofs.YtmphnoabkmoafaaGreatDoor
open Go.RowKit
variable {uu0 : Unit} [Base uu0]
set_option maxRecDepth 100000 in
set_option maxHeartbeats 2000000 in
theorem within_any (a b c d : Value) (la lb lc ld : List Int) (w : World) (ha : IntsAt w a la) (hb : IntsAt w b lb) (hc : IntsAt w c lc) (hd : IntsAt w d ld) (na : la.length ≤ 17592186043904) (nb : lb.length ≤ 17592186043904) (nc : lc.length ≤ 17592186043904) (nd : ld.length ≤ 17592186043904) :
    Calls Tryz.prog 69 #[.agg #[a, b], .agg #[c, d]] w fun e w' => e = .returned (.bool (subL la lc && subL lb ld)) ∧ Below w.heap.size w w' := by
  obtain ⟨aoa, ca, ma, hva⟩ : ∃ (ao' : Option Addr) (c' m' : Nat), a = .slice ao' m' c' := by obtain ⟨ao', c', h'⟩ := ha.shape; exact ⟨ao', c', _, h'⟩
  obtain ⟨aob, cb, mb, hvb⟩ : ∃ (ao' : Option Addr) (c' m' : Nat), b = .slice ao' m' c' := by obtain ⟨ao', c', h'⟩ := hb.shape; exact ⟨ao', c', _, h'⟩
  obtain ⟨aoc, cc, mc, hvc⟩ : ∃ (ao' : Option Addr) (c' m' : Nat), c = .slice ao' m' c' := by obtain ⟨ao', c', h'⟩ := hc.shape; exact ⟨ao', c', _, h'⟩
  obtain ⟨aod, cd, md, hvd⟩ : ∃ (ao' : Option Addr) (c' m' : Nat), d = .slice ao' m' c' := by obtain ⟨ao', c', h'⟩ := hd.shape; exact ⟨ao', c', _, h'⟩
  subst hva hvb hvc hvd
  obtain ⟨W, hW, hbel, hWs, hcell⟩ := box2 w (.slice aoa ma ca) (.slice aob mb cb) (.slice aoc mc cc) (.slice aod md cd) 34 34
  have hI : ∀ W', Below W.heap.size W W' → IntsAt W' (.slice aoa ma ca) la ∧ IntsAt W' (.slice aob mb cb) lb ∧ IntsAt W' (.slice aoc mc cc) lc ∧ IntsAt W' (.slice aod md cd) ld ∧ True := fun W' h =>
    have k := hbel.trans (h.mono hbel.size)
    ⟨ha.below k (Nat.le_refl _), hb.below k (Nat.le_refl _), hc.below k (Nat.le_refl _), hd.below k (Nat.le_refl _), trivial⟩
  have k0 : ∃ s, s = (subL la lc) ∧ ∀ W', Below W.heap.size W W' → Calls Tryz.prog 97 #[.slice aoa ma ca, .slice aoc mc cc] W' fun e w' => e = .returned (.bool s) ∧ Below W'.heap.size W' w' := ⟨_, rfl, fun W' h => sub_any _ _ la lc W' (hI W' h).1 (hI W' h).2.2.1 na nc⟩
  obtain ⟨s0, hs0, k0⟩ := k0
  have k1 : ∃ s, s = (subL lb ld) ∧ ∀ W', Below W.heap.size W W' → Calls Tryz.prog 97 #[.slice aob mb cb, .slice aod md cd] W' fun e w' => e = .returned (.bool s) ∧ Below W'.heap.size W' w' := ⟨_, rfl, fun W' h => sub_any _ _ lb ld W' (hI W' h).2.1 (hI W' h).2.2.2.1 nb nd⟩
  obtain ⟨s1, hs1, k1⟩ := k1
  have hgoal : (subL la lc && subL lb ld) = (s0 && s1) := by rw [← hs0, ← hs1]
  rw [hgoal]
  subst hW
  have K0 := Lib.hid k0
  have K1 := Lib.hid k1
  have HC := Lib.hid hcell
  have HB := Lib.hid hbel
  obtain ⟨G0⟩ : Nonempty Nat := ⟨0⟩
  clear hgoal hcell hI hWs hbel hs0 k0 hs1 k1 ha hb hc hd na nb nc nd
  go_enter Tryz.func69, Tryz.ntmps69
  go_wp2_with (first
    | (go_at_call 97; have G1 := G0; clear G0; refine (K0.out _ (Below.refl _ _)).mono ?_; rintro e w1 ⟨rfl, b1⟩; have j1 := b1; obtain ⟨d1_0, d1_1, d1_2, d1_3⟩ := HC.out w1 j1)
    | (go_at_call 97; have G2 := G1; clear G1; refine (K1.out w1 j1).mono ?_; rintro e w2 ⟨rfl, b2⟩; have j2 := j1.trans (b2.mono j1.size); obtain ⟨d2_0, d2_1, d2_2, d2_3⟩ := HC.out w2 j2))
  all_goals
    go_ret
    first
      | exact ⟨by first | rfl | simp [*], HB.out.trans (j2.mono HB.out.size)⟩
      | exact ⟨by first | rfl | simp [*], HB.out.trans (j1.mono HB.out.size)⟩
set_option maxRecDepth 100000 in
set_option maxHeartbeats 2000000 in
theorem change_any (a b c d e f : Value) (la lb lc ld le lf : List Int) (w : World) (ha : IntsAt w a la) (hb : IntsAt w b lb) (hc : IntsAt w c lc) (hd : IntsAt w d ld) (he : IntsAt w e le) (hf : IntsAt w f lf) (na : la.length ≤ 17592186043904) (nb : lb.length ≤ 17592186043904) (nc : lc.length ≤ 17592186043904) (nd : ld.length ≤ 17592186043904) (ne : le.length ≤ 17592186043904) (nf : lf.length ≤ 17592186043904) :
    Calls Tryz.prog 65 #[.agg #[a, b], .agg #[c, d], .agg #[e, f]] w fun e w' => e = .returned (.bool (setL lc && setL ld && safeL la lc le lf && safeL lb ld le lf)) ∧ Below w.heap.size w w' := by
  obtain ⟨aoa, ca, ma, hva⟩ : ∃ (ao' : Option Addr) (c' m' : Nat), a = .slice ao' m' c' := by obtain ⟨ao', c', h'⟩ := ha.shape; exact ⟨ao', c', _, h'⟩
  obtain ⟨aob, cb, mb, hvb⟩ : ∃ (ao' : Option Addr) (c' m' : Nat), b = .slice ao' m' c' := by obtain ⟨ao', c', h'⟩ := hb.shape; exact ⟨ao', c', _, h'⟩
  obtain ⟨aoc, cc, mc, hvc⟩ : ∃ (ao' : Option Addr) (c' m' : Nat), c = .slice ao' m' c' := by obtain ⟨ao', c', h'⟩ := hc.shape; exact ⟨ao', c', _, h'⟩
  obtain ⟨aod, cd, md, hvd⟩ : ∃ (ao' : Option Addr) (c' m' : Nat), d = .slice ao' m' c' := by obtain ⟨ao', c', h'⟩ := hd.shape; exact ⟨ao', c', _, h'⟩
  obtain ⟨aoe, ce, me, hve⟩ : ∃ (ao' : Option Addr) (c' m' : Nat), e = .slice ao' m' c' := by obtain ⟨ao', c', h'⟩ := he.shape; exact ⟨ao', c', _, h'⟩
  obtain ⟨aof, cf, mf, hvf⟩ : ∃ (ao' : Option Addr) (c' m' : Nat), f = .slice ao' m' c' := by obtain ⟨ao', c', h'⟩ := hf.shape; exact ⟨ao', c', _, h'⟩
  subst hva hvb hvc hvd hve hvf
  obtain ⟨W, hW, hbel, hWs, hcell⟩ := box3 w (.slice aoa ma ca) (.slice aob mb cb) (.slice aoc mc cc) (.slice aod md cd) (.slice aoe me ce) (.slice aof mf cf) 32 32 34
  have hI : ∀ W', Below W.heap.size W W' → IntsAt W' (.slice aoa ma ca) la ∧ IntsAt W' (.slice aob mb cb) lb ∧ IntsAt W' (.slice aoc mc cc) lc ∧ IntsAt W' (.slice aod md cd) ld ∧ IntsAt W' (.slice aoe me ce) le ∧ IntsAt W' (.slice aof mf cf) lf ∧ True := fun W' h =>
    have k := hbel.trans (h.mono hbel.size)
    ⟨ha.below k (Nat.le_refl _), hb.below k (Nat.le_refl _), hc.below k (Nat.le_refl _), hd.below k (Nat.le_refl _), he.below k (Nat.le_refl _), hf.below k (Nat.le_refl _), trivial⟩
  have k0 : ∃ s, s = (setL lc && setL ld) ∧ ∀ W', Below W.heap.size W W' → Calls Tryz.prog 64 #[.agg #[.slice aoc mc cc, .slice aod md cd]] W' fun e w' => e = .returned (.bool s) ∧ Below W'.heap.size W' w' := ⟨_, rfl, fun W' h => may_any _ _ lc ld W' (hI W' h).2.2.1 (hI W' h).2.2.2.1 nc nd⟩
  obtain ⟨s0, hs0, k0⟩ := k0
  have k1 : ∃ s, s = (safeL la lc le lf) ∧ ∀ W', Below W.heap.size W W' → Calls Tryz.prog 98 #[.slice aoa ma ca, .slice aoc mc cc, .agg #[.slice aoe me ce, .slice aof mf cf]] W' fun e w' => e = .returned (.bool s) ∧ Below W'.heap.size W' w' := ⟨_, rfl, fun W' h => safe_any _ _ _ _ la lc le lf W' (hI W' h).1 (hI W' h).2.2.1 (hI W' h).2.2.2.2.1 (hI W' h).2.2.2.2.2.1 na nc ne nf⟩
  obtain ⟨s1, hs1, k1⟩ := k1
  have k2 : ∃ s, s = (safeL lb ld le lf) ∧ ∀ W', Below W.heap.size W W' → Calls Tryz.prog 98 #[.slice aob mb cb, .slice aod md cd, .agg #[.slice aoe me ce, .slice aof mf cf]] W' fun e w' => e = .returned (.bool s) ∧ Below W'.heap.size W' w' := ⟨_, rfl, fun W' h => safe_any _ _ _ _ lb ld le lf W' (hI W' h).2.1 (hI W' h).2.2.2.1 (hI W' h).2.2.2.2.1 (hI W' h).2.2.2.2.2.1 nb nd ne nf⟩
  obtain ⟨s2, hs2, k2⟩ := k2
  have hgoal : (setL lc && setL ld && safeL la lc le lf && safeL lb ld le lf) = (s0 && s1 && s2) := by rw [← hs0, ← hs1, ← hs2]
  rw [hgoal]
  subst hW
  have K0 := Lib.hid k0
  have K1 := Lib.hid k1
  have K2 := Lib.hid k2
  have HC := Lib.hid hcell
  have HB := Lib.hid hbel
  obtain ⟨G0⟩ : Nonempty Nat := ⟨0⟩
  clear hgoal hcell hI hWs hbel hs0 k0 hs1 k1 hs2 k2 ha hb hc hd he hf na nb nc nd ne nf
  go_enter Tryz.func65, Tryz.ntmps65
  go_wp2_with (first
    | (go_at_call 64; have G1 := G0; clear G0; refine (K0.out _ (Below.refl _ _)).mono ?_; rintro e w1 ⟨rfl, b1⟩; have j1 := b1; obtain ⟨d1_0, d1_1, d1_2, d1_3, d1_4, d1_5⟩ := HC.out w1 j1)
    | (go_at_call 98; have G2 := G1; clear G1; refine (K1.out w1 j1).mono ?_; rintro e w2 ⟨rfl, b2⟩; have j2 := j1.trans (b2.mono j1.size); obtain ⟨d2_0, d2_1, d2_2, d2_3, d2_4, d2_5⟩ := HC.out w2 j2)
    | (go_at_call 98; have G3 := G2; clear G2; refine (K2.out w2 j2).mono ?_; rintro e w3 ⟨rfl, b3⟩; have j3 := j2.trans (b3.mono j2.size); obtain ⟨d3_0, d3_1, d3_2, d3_3, d3_4, d3_5⟩ := HC.out w3 j3))
  all_goals
    go_ret
    first
      | exact ⟨by first | rfl | simp [*], HB.out.trans (j3.mono HB.out.size)⟩
      | exact ⟨by first | rfl | simp [*], HB.out.trans (j2.mono HB.out.size)⟩
      | exact ⟨by first | rfl | simp [*], HB.out.trans (j1.mono HB.out.size)⟩
end Go.Proofs.YtmphnoabkmoafaaGreatDoor
