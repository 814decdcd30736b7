/- The law on ways back: the walk. -/
import Derived.BigQuiet
import Derived.Deep.DeepCutAuto
import Derived.Test.YtgkpdkdkpmkgdaaBackL
import Derived.Test.YtgkpdkdkpmkgdaaWrapA
import Derived.Test.YtgkpdkdkpmkgdaaLess
import Derived.Test.YtgkpdkdkpmkgdaaAwake
import Derived.Test.YtgkpdkdkpmkgdaaSets
namespace Go.Proofs.Ytgkpdkdkpmkgdaa
open Go.RowKit
set_option linter.unusedVariables false
set_option maxRecDepth 100000 in
set_option maxHeartbeats 4000000 in
theorem back_any (a b c d e f g p : Value) (la lb lc ld le lf lg lp : List Int) (w : World) (ha : IntsAt w a la) (hb : IntsAt w b lb) (hc : IntsAt w c lc) (hd : IntsAt w d ld) (he : IntsAt w e le) (hf : IntsAt w f lf) (hg : IntsAt w g lg) (hp : IntsAt w p lp)
    (na : la.length ≤ 17592186043904) (nb : lb.length ≤ 17592186043904) (nc : lc.length ≤ 17592186043904) (nd : ld.length ≤ 17592186043904) (ne : le.length ≤ 17592186043904) (nf : lf.length ≤ 17592186043904) (ng : lg.length ≤ 17592186043904) (np : lp.length ≤ 17592186043904) :
    Calls Try.prog 6 #[.agg #[a, b], .agg #[c, d], .agg #[e, f], .agg #[g, p]] w fun e w' => e = .returned (.bool true) ∧ Below w.heap.size w w' := by
  obtain ⟨aoa, ma, ca, rfl⟩ := ha.shape3
  obtain ⟨aob, mb, cb, rfl⟩ := hb.shape3
  obtain ⟨aoc, mc, cc, rfl⟩ := hc.shape3
  obtain ⟨aod, md, cd, rfl⟩ := hd.shape3
  obtain ⟨aoe, me, ce, rfl⟩ := he.shape3
  obtain ⟨aof, mf, cf, rfl⟩ := hf.shape3
  obtain ⟨aog, mg, cg, rfl⟩ := hg.shape3
  obtain ⟨aop, mp, cp, rfl⟩ := hp.shape3
  obtain ⟨W, hW, hbel, hWs, hcell⟩ := box4 w (.slice aoa ma ca) (.slice aob mb cb) (.slice aoc mc cc) (.slice aod md cd) (.slice aoe me ce) (.slice aof mf cf) (.slice aog mg cg) (.slice aop mp cp) 26 26 37 37
  have hI : ∀ W', Below W.heap.size W W' → IntsAt W' (.slice aoa ma ca) la ∧ IntsAt W' (.slice aob mb cb) lb ∧ IntsAt W' (.slice aoc mc cc) lc ∧ IntsAt W' (.slice aod md cd) ld ∧ IntsAt W' (.slice aoe me ce) le ∧ IntsAt W' (.slice aof mf cf) lf ∧ IntsAt W' (.slice aog mg cg) lg ∧ IntsAt W' (.slice aop mp cp) lp := fun W' h =>
    have k := hbel.trans (h.mono hbel.size)
    ⟨ha.below k (Nat.le_refl _), hb.below k (Nat.le_refl _), hc.below k (Nat.le_refl _), hd.below k (Nat.le_refl _), he.below k (Nat.le_refl _), hf.below k (Nat.le_refl _), hg.below k (Nat.le_refl _), hp.below k (Nat.le_refl _)⟩
  have hn : (la.length ≤ 17592186043904 ∧ lb.length ≤ 17592186043904 ∧ lc.length ≤ 17592186043904 ∧ ld.length ≤ 17592186043904 ∧ le.length ≤ 17592186043904 ∧ lf.length ≤ 17592186043904 ∧ lg.length ≤ 17592186043904 ∧ lp.length ≤ 17592186043904) := ⟨na, nb, nc, nd, ne, nf, ng, np⟩
  obtain ⟨q0, hq0, g0⟩ : ∃ s, s = (setL la && setL lb) ∧ ∀ W', Below W.heap.size W W' → Calls Try.prog 10 #[.agg #[.slice aoa ma ca, .slice aob mb cb]] W' fun e w' => e = .returned (.bool s) ∧ Below W'.heap.size W' w' := ⟨_, rfl, fun W' h => may_any _ _ la lb W' (hI W' h).1 (hI W' h).2.1 na nb⟩
  obtain ⟨q1, hq1, g1⟩ : ∃ s, s = (setL lc && setL ld) ∧ ∀ W', Below W.heap.size W W' → Calls Try.prog 10 #[.agg #[.slice aoc mc cc, .slice aod md cd]] W' fun e w' => e = .returned (.bool s) ∧ Below W'.heap.size W' w' := ⟨_, rfl, fun W' h => may_any _ _ lc ld W' (hI W' h).2.2.1 (hI W' h).2.2.2.1 nc nd⟩
  obtain ⟨q2, hq2, g2⟩ : ∃ s, s = (setL le) ∧ ∀ W', Below W.heap.size W W' → Calls Try.prog 9 #[.slice aoe me ce] W' fun e w' => e = .returned (.bool s) ∧ Below W'.heap.size W' w' := ⟨_, rfl, fun W' h => (set_any _ le W' (hI W' h).2.2.2.2.1 (by omega)).mono fun e w' ⟨h1, h2⟩ => ⟨h1, by rw [h2]; exact Below.refl _ _⟩⟩
  obtain ⟨q3, hq3, g3⟩ : ∃ s, s = (setL lf) ∧ ∀ W', Below W.heap.size W W' → Calls Try.prog 9 #[.slice aof mf cf] W' fun e w' => e = .returned (.bool s) ∧ Below W'.heap.size W' w' := ⟨_, rfl, fun W' h => (set_any _ lf W' (hI W' h).2.2.2.2.2.1 (by omega)).mono fun e w' ⟨h1, h2⟩ => ⟨h1, by rw [h2]; exact Below.refl _ _⟩⟩
  obtain ⟨q4, hq4, g4⟩ : ∃ s, s = (setL lg) ∧ ∀ W', Below W.heap.size W W' → Calls Try.prog 9 #[.slice aog mg cg] W' fun e w' => e = .returned (.bool s) ∧ Below W'.heap.size W' w' := ⟨_, rfl, fun W' h => (set_any _ lg W' (hI W' h).2.2.2.2.2.2.1 (by omega)).mono fun e w' ⟨h1, h2⟩ => ⟨h1, by rw [h2]; exact Below.refl _ _⟩⟩
  obtain ⟨q5, hq5, g5⟩ : ∃ s, s = (setL lp) ∧ ∀ W', Below W.heap.size W W' → Calls Try.prog 9 #[.slice aop mp cp] W' fun e w' => e = .returned (.bool s) ∧ Below W'.heap.size W' w' := ⟨_, rfl, fun W' h => (set_any _ lp W' (hI W' h).2.2.2.2.2.2.2 (by omega)).mono fun e w' ⟨h1, h2⟩ => ⟨h1, by rw [h2]; exact Below.refl _ _⟩⟩
  subst hW
  have K0 := Lib.hid g0
  have K1 := Lib.hid g1
  have K2 := Lib.hid g2
  have K3 := Lib.hid g3
  have K4 := Lib.hid g4
  have K5 := Lib.hid g5
  have HC := Lib.hid hcell
  have HB := Lib.hid hbel
  have HI := Lib.hid hI
  have HN := Lib.hid hn
  have HQ : Hid (q0 = (setL la && setL lb) ∧ q1 = (setL lc && setL ld) ∧ q2 = (setL le) ∧ q3 = (setL lf) ∧ q4 = (setL lg) ∧ q5 = (setL lp)) := ⟨hq0, hq1, hq2, hq3, hq4, hq5⟩
  obtain ⟨G0⟩ : Nonempty Nat := ⟨0⟩
  clear hcell hI hWs hbel hn hq0 g0 hq1 g1 hq2 g2 hq3 g3 hq4 g4 hq5 g5 ha hb hc hd he hf hg hp na nb nc nd ne nf ng np
  by_cases hall : (q0 && q1 && q2 && q3 && q4 && q5) = true
  · obtain ⟨⟨⟨⟨⟨rfl, rfl⟩, rfl⟩, rfl⟩, rfl⟩, rfl⟩ : ((((q0 = true ∧ q1 = true) ∧ q2 = true) ∧ q3 = true) ∧ q4 = true) ∧ q5 = true := by simpa using hall
    clear hall
    go_enter Try.func6, Try.ntmps6
    go_upto_region 4 with (first
      | (go_at_call 10; have G1 := G0; clear G0; refine (K0.out _ (Below.refl _ _)).mono ?_; rintro e w1 ⟨rfl, b1⟩; have j1 := b1; obtain ⟨d1_0, d1_1, d1_2, d1_3, d1_4, d1_5, d1_6, d1_7⟩ := HC.out w1 j1)
      | (go_at_call 10; have G2 := G1; clear G1; refine (K1.out w1 j1).mono ?_; rintro e w2 ⟨rfl, b2⟩; have j2 := j1.trans (b2.mono j1.size); obtain ⟨d2_0, d2_1, d2_2, d2_3, d2_4, d2_5, d2_6, d2_7⟩ := HC.out w2 j2)
      | (go_at_call 9; have G3 := G2; clear G2; refine (K2.out w2 j2).mono ?_; rintro e w3 ⟨rfl, b3⟩; have j3 := j2.trans (b3.mono j2.size); obtain ⟨d3_0, d3_1, d3_2, d3_3, d3_4, d3_5, d3_6, d3_7⟩ := HC.out w3 j3)
      | (go_at_call 9; have G4 := G3; clear G3; refine (K3.out w3 j3).mono ?_; rintro e w4 ⟨rfl, b4⟩; have j4 := j3.trans (b4.mono j3.size); obtain ⟨d4_0, d4_1, d4_2, d4_3, d4_4, d4_5, d4_6, d4_7⟩ := HC.out w4 j4)
      | (go_at_call 9; have G5 := G4; clear G4; refine (K4.out w4 j4).mono ?_; rintro e w5 ⟨rfl, b5⟩; have j5 := j4.trans (b5.mono j4.size); obtain ⟨d5_0, d5_1, d5_2, d5_3, d5_4, d5_5, d5_6, d5_7⟩ := HC.out w5 j5)
      | (go_at_call 9; have G6 := G5; clear G5; refine (K5.out w5 j5).mono ?_; rintro e w6 ⟨rfl, b6⟩; have j6 := j5.trans (b6.mono j5.size); obtain ⟨d6_0, d6_1, d6_2, d6_3, d6_4, d6_5, d6_6, d6_7⟩ := HC.out w6 j6))
    have hs0 : setL la = true ∧ setL lb = true ∧ setL lc = true ∧ setL ld = true := by
      have h1 := HQ.out.1
      have h2 := HQ.out.2.1
      simp at h1 h2
      exact ⟨h1.1, h1.2, h2.1, h2.2⟩
    have HS0 := Lib.hid hs0
    clear hs0 HQ
    obtain ⟨Wt, hWt, bt, st, ct⟩ := box1 w6 (.slice aof mf cf) (.slice aoe me ce) 37
    rw [← hWt]
    clear hWt
    have jt := j6.trans (bt.mono j6.size)
    have Bt : Below w.heap.size w Wt := HB.out.trans (jt.mono HB.out.size)
    have S8 : Hid (∀ W', Below Wt.heap.size Wt W' → _) := Lib.hid fun W' h => HC.out W' (jt.trans (h.mono jt.size))
    have hI : ∀ W', Below Wt.heap.size Wt W' → IntsAt W' (.slice aoa ma ca) la ∧ IntsAt W' (.slice aob mb cb) lb ∧ IntsAt W' (.slice aoc mc cc) lc ∧ IntsAt W' (.slice aod md cd) ld ∧ IntsAt W' (.slice aoe me ce) le ∧ IntsAt W' (.slice aof mf cf) lf ∧ IntsAt W' (.slice aog mg cg) lg ∧ IntsAt W' (.slice aop mp cp) lp := fun W' h => HI.out W' (jt.trans (h.mono jt.size))
    have CT := Lib.hid ct
    clear ct st HC HB HI jt bt j6 b6 j1 b1 j2 b2 j3 b3 j4 b4 j5 b5 d1_0 d1_1 d1_2 d1_3 d1_4 d1_5 d1_6 d1_7 d2_0 d2_1 d2_2 d2_3 d2_4 d2_5 d2_6 d2_7 d3_0 d3_1 d3_2 d3_3 d3_4 d3_5 d3_6 d3_7 d4_0 d4_1 d4_2 d4_3 d4_4 d4_5 d4_6 d4_7 d5_0 d5_1 d5_2 d5_3 d5_4 d5_5 d5_6 d5_7 d6_0 d6_1 d6_2 d6_3 d6_4 d6_5 d6_6 d6_7 K0 K1 K2 K3 K4 K5
    obtain ⟨p1, hp1⟩ : ∃ s, s = changeL la lb lc ld le lf := ⟨_, rfl⟩
    have HP1 := Lib.hid hp1
    clear hp1
    have X1 : Hid (∀ W', Below Wt.heap.size Wt W' → Calls Try.prog 24 #[.agg #[.slice aoa ma ca, .slice aob mb cb], .agg #[.slice aoc mc cc, .slice aod md cd], .agg #[.slice aoe me ce, .slice aof mf cf]] W' fun e w' => e = .returned (.bool p1) ∧ Below W'.heap.size W' w') := Lib.hid fun  W' h => by
      have := change_any _ _ _ _ _ _ la lb lc ld le lf W' (hI W' h).1 (hI W' h).2.1 (hI W' h).2.2.1 (hI W' h).2.2.2.1 (hI W' h).2.2.2.2.1 (hI W' h).2.2.2.2.2.1 HN.out.1 HN.out.2.1 HN.out.2.2.1 HN.out.2.2.2.1 HN.out.2.2.2.2.1 HN.out.2.2.2.2.2.1
      rw [show (setL lc && setL ld && safeL la lc le lf && safeL lb ld le lf) = p1 from HP1.out.symm] at this
      exact this
    have X2 : Hid (∀ W', Below Wt.heap.size Wt W' → Calls Try.prog 24 #[.agg #[.slice aoc mc cc, .slice aod md cd], .agg #[.slice aoa ma ca, .slice aob mb cb], .agg #[.slice aof mf cf, .slice aoe me ce]] W' fun e w' => e = .returned (.bool p1) ∧ Below W'.heap.size W' w') := Lib.hid fun  W' h => by
      have := change_any _ _ _ _ _ _ lc ld la lb lf le W' (hI W' h).2.2.1 (hI W' h).2.2.2.1 (hI W' h).1 (hI W' h).2.1 (hI W' h).2.2.2.2.2.1 (hI W' h).2.2.2.2.1 HN.out.2.2.1 HN.out.2.2.2.1 HN.out.1 HN.out.2.1 HN.out.2.2.2.2.2.1 HN.out.2.2.2.2.1
      rw [show (setL la && setL lb && safeL lc la lf le && safeL ld lb lf le) = p1 from ((change_turn HS0.out.1 HS0.out.2.1 HS0.out.2.2.1 HS0.out.2.2.2).symm.trans HP1.out.symm)] at this
      exact this
    have X3 : Hid (∀ W', Below Wt.heap.size Wt W' → Calls Try.prog 24 #[.agg #[.slice aoa ma ca, .slice aob mb cb], .agg #[.slice aoa ma ca, .slice aob mb cb], .agg #[.slice aoe me ce, .slice aof mf cf]] W' fun e w' => e = .returned (.bool true) ∧ Below W'.heap.size W' w') := Lib.hid fun  W' h => by
      have := change_any _ _ _ _ _ _ la lb la lb le lf W' (hI W' h).1 (hI W' h).2.1 (hI W' h).1 (hI W' h).2.1 (hI W' h).2.2.2.2.1 (hI W' h).2.2.2.2.2.1 HN.out.1 HN.out.2.1 HN.out.1 HN.out.2.1 HN.out.2.2.2.2.1 HN.out.2.2.2.2.2.1
      rw [show (setL la && setL lb && safeL la la le lf && safeL lb lb le lf) = true from change_self HS0.out.1 HS0.out.2.1] at this
      exact this
    have HI := Lib.hid hI
    clear hI
    go_cut [66] (fun s66 wx => s66 = .bool false ∧ Below Wt.heap.size Wt wx)
    case first =>
      have l0 : ∀ i : Lat Wt, i.w.cell? ⟨w.heap.size, 0, none⟩ = some (.slice aoa ma ca) := fun i => (S8.out i.w i.h).1
      have l1 : ∀ i : Lat Wt, i.w.cell? ⟨w.heap.size, 1, none⟩ = some (.slice aob mb cb) := fun i => (S8.out i.w i.h).2.1
      have l2 : ∀ i : Lat Wt, i.w.cell? ⟨w.heap.size + 1, 0, none⟩ = some (.slice aoc mc cc) := fun i => (S8.out i.w i.h).2.2.1
      have l3 : ∀ i : Lat Wt, i.w.cell? ⟨w.heap.size + 1, 1, none⟩ = some (.slice aod md cd) := fun i => (S8.out i.w i.h).2.2.2.1
      have l4 : ∀ i : Lat Wt, i.w.cell? ⟨w.heap.size + 1 + 1, 0, none⟩ = some (.slice aoe me ce) := fun i => (S8.out i.w i.h).2.2.2.2.1
      have l5 : ∀ i : Lat Wt, i.w.cell? ⟨w.heap.size + 1 + 1, 1, none⟩ = some (.slice aof mf cf) := fun i => (S8.out i.w i.h).2.2.2.2.2.1
      have l6 : ∀ i : Lat Wt, i.w.cell? ⟨w.heap.size + 1 + 1 + 1, 0, none⟩ = some (.slice aog mg cg) := fun i => (S8.out i.w i.h).2.2.2.2.2.2.1
      have l7 : ∀ i : Lat Wt, i.w.cell? ⟨w.heap.size + 1 + 1 + 1, 1, none⟩ = some (.slice aop mp cp) := fun i => (S8.out i.w i.h).2.2.2.2.2.2.2
      have l8 : ∀ i : Lat Wt, i.w.cell? ⟨w6.heap.size, 0, none⟩ = some (.slice aof mf cf) := fun i => (CT.out i.w i.h).1
      have l9 : ∀ i : Lat Wt, i.w.cell? ⟨w6.heap.size, 1, none⟩ = some (.slice aoe me ce) := fun i => (CT.out i.w i.h).2
      rcases p1 with _ | _
      all_goals
        refine wp_region_lat (W := Wt) (by kernel_rfl) (by kernel_rfl) (Below.refl _ _) ?_
        iterate 16 (go_big_quiet_step ((first | (with_reducible exact Lat.call (X1.out _ (Lat.h _))) | (with_reducible exact Lat.call (X2.out _ (Lat.h _))) | (with_reducible exact Lat.call (X3.out _ (Lat.h _))))))
        refine wpQuiet_nil ?_
        rintro _ ⟨i, rfl⟩
        go_wp2_with (fail)
        go_meet
        exact ⟨rfl, i.h⟩
    case rest =>
      obtain ⟨rfl, hb⟩ := hcut
      clear X2 X3 CT
      obtain ⟨pok, hpok⟩ : ∃ s, s = (joinOk le lg && joinOk lf lp) := ⟨_, rfl⟩
      have cm : ∀ W', Below Wt.heap.size Wt W' → Calls Try.prog 25 #[.agg #[.slice aoe me ce, .slice aof mf cf], .agg #[.slice aog mg cg, .slice aop mp cp]] W' fun e w' => ∃ x y, e = .returned (.tuple #[.agg #[x, y], .bool pok]) ∧ IntsAt w' x (onlyIf pok (joinL le lg)) ∧ IntsAt w' y (onlyIf pok (joinL lf lp)) ∧ Below W'.heap.size W' w' := fun W' h => by
        rw [hpok]
        exact more_any _ _ _ _ le lf lg lp W' (HI.out W' h).2.2.2.2.1 (HI.out W' h).2.2.2.2.2.1 (HI.out W' h).2.2.2.2.2.2.1 (HI.out W' h).2.2.2.2.2.2.2 HN.out.2.2.2.2.1 HN.out.2.2.2.2.2.1 HN.out.2.2.2.2.2.2.1 HN.out.2.2.2.2.2.2.2
      have HPO := Lib.hid hpok
      have Cm := Lib.hid cm
      clear hpok cm
      obtain ⟨e0, e1, e2, e3, e4, e5, e6, e7⟩ := S8.out wc hb
      go_upto_region 7 with (go_at_call 25; refine (Cm.out wc hb).mono ?_; rintro e w7 ⟨vx, vy, rfl, ix, iy, b7⟩; obtain ⟨aox, mx, cx, rfl⟩ := ix.shape3; obtain ⟨aoy, my, cy, rfl⟩ := iy.shape3)
      have j7 := hb.trans (b7.mono hb.size)
      obtain ⟨Wm, hWm, bm, sm, ccm⟩ := box1 w7 (.slice aox mx cx) (.slice aoy my cy) 37
      rw [← hWm]
      clear hWm
      have jm := j7.trans (bm.mono j7.size)
      have Bm : Below w.heap.size w Wm := Bt.trans (jm.mono Bt.size)
      have S9 : Hid (∀ W', Below Wm.heap.size Wm W' → _) := Lib.hid fun W' h => S8.out W' (jm.trans (h.mono jm.size))
      have X1m : Hid (∀ W', Below Wm.heap.size Wm W' → _) := Lib.hid fun W' h => X1.out W' (jm.trans (h.mono jm.size))
      have hI : ∀ W', Below Wm.heap.size Wm W' → IntsAt W' (.slice aoa ma ca) la ∧ IntsAt W' (.slice aob mb cb) lb ∧ IntsAt W' (.slice aoc mc cc) lc ∧ IntsAt W' (.slice aod md cd) ld ∧ IntsAt W' (.slice aoe me ce) le ∧ IntsAt W' (.slice aof mf cf) lf ∧ IntsAt W' (.slice aog mg cg) lg ∧ IntsAt W' (.slice aop mp cp) lp := fun W' h => HI.out W' (jm.trans (h.mono jm.size))
      have hM : ∀ W', Below Wm.heap.size Wm W' → IntsAt W' (.slice aox mx cx) (onlyIf pok (joinL le lg)) ∧ IntsAt W' (.slice aoy my cy) (onlyIf pok (joinL lf lp)) := fun W' h => have k := bm.trans (h.mono bm.size); ⟨ix.below k (Nat.le_refl _), iy.below k (Nat.le_refl _)⟩
      have hxy : ((onlyIf pok (joinL le lg))).length ≤ 17592186043904 ∧ ((onlyIf pok (joinL lf lp))).length ≤ 17592186043904 := by
        unfold onlyIf
        have h1 := joinL_few le lg
        have h2 := joinL_few lf lp
        split
        · exact ⟨by omega, by omega⟩
        · exact ⟨Nat.zero_le _, Nat.zero_le _⟩
      have CM := Lib.hid ccm
      clear ccm e0 e1 e2 e3 e4 e5 e6 e7 sm S8 X1 Cm
      have X4 : Hid (pok = true → p1 = true → ∀ W', Below Wm.heap.size Wm W' → Calls Try.prog 24 #[.agg #[.slice aoa ma ca, .slice aob mb cb], .agg #[.slice aoc mc cc, .slice aod md cd], .agg #[.slice aox mx cx, .slice aoy my cy]] W' fun e w' => e = .returned (.bool true) ∧ Below W'.heap.size W' w') := Lib.hid fun e0 e1 W' h => by
        have := change_any _ _ _ _ _ _ la lb lc ld (onlyIf pok (joinL le lg)) (onlyIf pok (joinL lf lp)) W' (hI W' h).1 (hI W' h).2.1 (hI W' h).2.2.1 (hI W' h).2.2.2.1 (hM W' h).1 (hM W' h).2 HN.out.1 HN.out.2.1 HN.out.2.2.1 HN.out.2.2.2.1 hxy.1 hxy.2
        rw [show (setL lc && setL ld && safeL la lc (onlyIf pok (joinL le lg)) (onlyIf pok (joinL lf lp)) && safeL lb ld (onlyIf pok (joinL le lg)) (onlyIf pok (joinL lf lp))) = true from by unfold onlyIf; rw [e0]; simp only [if_true]; exact change_more (HPO.out.symm.trans e0) (HP1.out.symm.trans e1)] at this
        exact this
      have X5 : Hid (pok = true → ∀ W', Below Wm.heap.size Wm W' → Calls Try.prog 26 #[.agg #[.slice aoe me ce, .slice aof mf cf], .agg #[.slice aox mx cx, .slice aoy my cy]] W' fun e w' => e = .returned (.bool true) ∧ Below W'.heap.size W' w') := Lib.hid fun e0 W' h => by
        have := within_any _ _ _ _ le lf (onlyIf pok (joinL le lg)) (onlyIf pok (joinL lf lp)) W' (hI W' h).2.2.2.2.1 (hI W' h).2.2.2.2.2.1 (hM W' h).1 (hM W' h).2 HN.out.2.2.2.2.1 HN.out.2.2.2.2.2.1 hxy.1 hxy.2
        rw [show (subL le (onlyIf pok (joinL le lg)) && subL lf (onlyIf pok (joinL lf lp))) = true from by unfold onlyIf; rw [e0]; simp only [if_true]; exact within_left (HPO.out.symm.trans e0)] at this
        exact this
      have X6 : Hid (pok = true → ∀ W', Below Wm.heap.size Wm W' → Calls Try.prog 26 #[.agg #[.slice aog mg cg, .slice aop mp cp], .agg #[.slice aox mx cx, .slice aoy my cy]] W' fun e w' => e = .returned (.bool true) ∧ Below W'.heap.size W' w') := Lib.hid fun e0 W' h => by
        have := within_any _ _ _ _ lg lp (onlyIf pok (joinL le lg)) (onlyIf pok (joinL lf lp)) W' (hI W' h).2.2.2.2.2.2.1 (hI W' h).2.2.2.2.2.2.2 (hM W' h).1 (hM W' h).2 HN.out.2.2.2.2.2.2.1 HN.out.2.2.2.2.2.2.2 hxy.1 hxy.2
        rw [show (subL lg (onlyIf pok (joinL le lg)) && subL lp (onlyIf pok (joinL lf lp))) = true from by unfold onlyIf; rw [e0]; simp only [if_true]; exact within_right (HPO.out.symm.trans e0)] at this
        exact this
      have HI' := Lib.hid hI
      have HM := Lib.hid hM
      have HXY := Lib.hid hxy
      clear HI hI hM hxy
      obtain ⟨Gm6⟩ : Nonempty Nat := ⟨0⟩
      go_cut [98] (fun s98 wx => s98 = .bool false ∧ Below Wm.heap.size Wm wx)
      case first =>
        obtain ⟨e0, e1, e2, e3, e4, e5, e6, e7⟩ := S9.out Wm (Below.refl _ _)
        obtain ⟨f0, f1⟩ := CM.out Wm (Below.refl _ _)
        have hcs : pok = false ∨ (pok = true ∧ p1 = false) ∨ (pok = true ∧ p1 = true) := by cases pok <;> cases p1 <;> simp
        rcases hcs with rfl | ⟨rfl, rfl⟩ | ⟨rfl, rfl⟩
        · go_wp2_with (fail)
          go_meet
          exact ⟨rfl, Below.refl _ _⟩
        · have X5' := Lib.hid (X5.out rfl)
          have X6' := Lib.hid (X6.out rfl)
          go_wp2_with (first
            | (go_at_call 24; have Gm7 := Gm6; clear Gm6; refine (X1m.out Wm (Below.refl _ _)).mono ?_; rintro e w7 ⟨rfl, b7⟩; have j7 := b7; obtain ⟨d7_0, d7_1, d7_2, d7_3, d7_4, d7_5, d7_6, d7_7⟩ := S9.out w7 j7; obtain ⟨f7_0, f7_1⟩ := CM.out w7 j7)
            | (go_at_call 26; have Gm8 := Gm7; clear Gm7; refine (X5'.out w7 j7).mono ?_; rintro e w8 ⟨rfl, b8⟩; have j8 := j7.trans (b8.mono j7.size); obtain ⟨d8_0, d8_1, d8_2, d8_3, d8_4, d8_5, d8_6, d8_7⟩ := S9.out w8 j8; obtain ⟨f8_0, f8_1⟩ := CM.out w8 j8)
            | (go_at_call 26; have Gm9 := Gm8; clear Gm8; refine (X6'.out w8 j8).mono ?_; rintro e w9 ⟨rfl, b9⟩; have j9 := j8.trans (b9.mono j8.size); obtain ⟨d9_0, d9_1, d9_2, d9_3, d9_4, d9_5, d9_6, d9_7⟩ := S9.out w9 j9; obtain ⟨f9_0, f9_1⟩ := CM.out w9 j9))
          go_meet
          exact ⟨rfl, j9⟩
        · have X4' := Lib.hid (X4.out rfl rfl)
          have X5' := Lib.hid (X5.out rfl)
          have X6' := Lib.hid (X6.out rfl)
          go_wp2_with (first
            | (go_at_call 24; have Gm7 := Gm6; clear Gm6; refine (X1m.out Wm (Below.refl _ _)).mono ?_; rintro e w7 ⟨rfl, b7⟩; have j7 := b7; obtain ⟨d7_0, d7_1, d7_2, d7_3, d7_4, d7_5, d7_6, d7_7⟩ := S9.out w7 j7; obtain ⟨f7_0, f7_1⟩ := CM.out w7 j7)
            | (go_at_call 24; have Gm8 := Gm7; clear Gm7; refine (X4'.out w7 j7).mono ?_; rintro e w8 ⟨rfl, b8⟩; have j8 := j7.trans (b8.mono j7.size); obtain ⟨d8_0, d8_1, d8_2, d8_3, d8_4, d8_5, d8_6, d8_7⟩ := S9.out w8 j8; obtain ⟨f8_0, f8_1⟩ := CM.out w8 j8)
            | (go_at_call 26; have Gm9 := Gm8; clear Gm8; refine (X5'.out w8 j8).mono ?_; rintro e w9 ⟨rfl, b9⟩; have j9 := j8.trans (b9.mono j8.size); obtain ⟨d9_0, d9_1, d9_2, d9_3, d9_4, d9_5, d9_6, d9_7⟩ := S9.out w9 j9; obtain ⟨f9_0, f9_1⟩ := CM.out w9 j9)
            | (go_at_call 26; have Gm10 := Gm9; clear Gm9; refine (X6'.out w9 j9).mono ?_; rintro e w10 ⟨rfl, b10⟩; have j10 := j9.trans (b10.mono j9.size); obtain ⟨d10_0, d10_1, d10_2, d10_3, d10_4, d10_5, d10_6, d10_7⟩ := S9.out w10 j10; obtain ⟨f10_0, f10_1⟩ := CM.out w10 j10))
          go_meet
          exact ⟨rfl, j10⟩
      case rest =>
        rename_i wd
        obtain ⟨rfl, hb2⟩ := hcut
        clear X4 X5 X6 CM HM HXY
        have cl : ∀ W', Below Wm.heap.size Wm W' → Calls Try.prog 27 #[.agg #[.slice aoe me ce, .slice aof mf cf], .agg #[.slice aog mg cg, .slice aop mp cp]] W' fun e w' => ∃ x y, e = .returned (.agg #[x, y]) ∧ IntsAt w' x (lessL le lg) ∧ IntsAt w' y (lessL lf lp) ∧ Below W'.heap.size W' w' := fun W' h =>
          less_any _ _ _ _ le lf lg lp W' (HI'.out W' h).2.2.2.2.1 (HI'.out W' h).2.2.2.2.2.1 (HI'.out W' h).2.2.2.2.2.2.1 (HI'.out W' h).2.2.2.2.2.2.2 HN.out.2.2.2.2.1 HN.out.2.2.2.2.2.1 HN.out.2.2.2.2.2.2.1 HN.out.2.2.2.2.2.2.2
        have Cl := Lib.hid cl
        clear cl
        obtain ⟨e0, e1, e2, e3, e4, e5, e6, e7⟩ := S9.out _ hb2
        go_upto_region 10 with (go_at_call 27; refine (Cl.out _ hb2).mono ?_; rintro e w8 ⟨vu, vv, rfl, iu, iv, b8⟩; obtain ⟨aou, mu, cu, rfl⟩ := iu.shape3; obtain ⟨aov, mv, cv, rfl⟩ := iv.shape3)
        have j8 := hb2.trans (b8.mono hb2.size)
        obtain ⟨We, hWe, be, se, cce⟩ := box1 w8 (.slice aou mu cu) (.slice aov mv cv) 37
        rw [← hWe]
        clear hWe
        have je := j8.trans (be.mono j8.size)
        have Be : Below w.heap.size w We := Bm.trans (je.mono Bm.size)
        have SE : Hid (∀ W', Below We.heap.size We W' → _) := Lib.hid fun W' h => S9.out W' (je.trans (h.mono je.size))
        have X1e : Hid (∀ W', Below We.heap.size We W' → _) := Lib.hid fun W' h => X1m.out W' (je.trans (h.mono je.size))
        have hI : ∀ W', Below We.heap.size We W' → IntsAt W' (.slice aoa ma ca) la ∧ IntsAt W' (.slice aob mb cb) lb ∧ IntsAt W' (.slice aoc mc cc) lc ∧ IntsAt W' (.slice aod md cd) ld ∧ IntsAt W' (.slice aoe me ce) le ∧ IntsAt W' (.slice aof mf cf) lf ∧ IntsAt W' (.slice aog mg cg) lg ∧ IntsAt W' (.slice aop mp cp) lp := fun W' h => HI'.out W' (je.trans (h.mono je.size))
        have hE : ∀ W', Below We.heap.size We W' → IntsAt W' (.slice aou mu cu) (lessL le lg) ∧ IntsAt W' (.slice aov mv cv) (lessL lf lp) := fun W' h => have k := be.trans (h.mono be.size); ⟨iu.below k (Nat.le_refl _), iv.below k (Nat.le_refl _)⟩
        have huv : ((lessL le lg)).length ≤ 17592186043904 ∧ ((lessL lf lp)).length ≤ 17592186043904 := ⟨Nat.le_trans (lessL_length _ _) HN.out.2.2.2.2.1, Nat.le_trans (lessL_length _ _) HN.out.2.2.2.2.2.1⟩
        have CE := Lib.hid cce
        clear cce e0 e1 e2 e3 e4 e5 e6 e7 se S9 X1m Cl
        obtain ⟨p5, hp5⟩ : ∃ s, s = changeL la lb lc ld (lessL le lg) (lessL lf lp) := ⟨_, rfl⟩
        have HP5 := Lib.hid hp5
        clear hp5
        have Y1 : Hid (∀ W', Below We.heap.size We W' → Calls Try.prog 26 #[.agg #[.slice aou mu cu, .slice aov mv cv], .agg #[.slice aoe me ce, .slice aof mf cf]] W' fun e w' => e = .returned (.bool true) ∧ Below W'.heap.size W' w') := Lib.hid fun  W' h => by
          have := within_any _ _ _ _ (lessL le lg) (lessL lf lp) le lf W' (hE W' h).1 (hE W' h).2 (hI W' h).2.2.2.2.1 (hI W' h).2.2.2.2.2.1 huv.1 huv.2 HN.out.2.2.2.2.1 HN.out.2.2.2.2.2.1
          rw [show (subL (lessL le lg) le && subL (lessL lf lp) lf) = true from less_within _ _ _ _] at this
          exact this
        have Y2 : Hid (∀ W', Below We.heap.size We W' → Calls Try.prog 24 #[.agg #[.slice aoa ma ca, .slice aob mb cb], .agg #[.slice aoc mc cc, .slice aod md cd], .agg #[.slice aou mu cu, .slice aov mv cv]] W' fun e w' => e = .returned (.bool p5) ∧ Below W'.heap.size W' w') := Lib.hid fun  W' h => by
          have := change_any _ _ _ _ _ _ la lb lc ld (lessL le lg) (lessL lf lp) W' (hI W' h).1 (hI W' h).2.1 (hI W' h).2.2.1 (hI W' h).2.2.2.1 (hE W' h).1 (hE W' h).2 HN.out.1 HN.out.2.1 HN.out.2.2.1 HN.out.2.2.2.1 huv.1 huv.2
          rw [show (setL lc && setL ld && safeL la lc (lessL le lg) (lessL lf lp) && safeL lb ld (lessL le lg) (lessL lf lp)) = p5 from HP5.out.symm] at this
          exact this
        have hpp : p5 = true → p1 = true := fun h => HP1.out.trans (change_less (HP5.out.symm.trans h))
        have HPP := Lib.hid hpp
        clear hpp hI hE huv
        obtain ⟨e0, e1, e2, e3, e4, e5, e6, e7⟩ := SE.out We (Below.refl _ _)
        obtain ⟨f0, f1⟩ := CE.out We (Below.refl _ _)
        obtain ⟨Gm6⟩ : Nonempty Nat := ⟨0⟩
        rcases p5 with _ | _
        · go_wp2_with (first
            | (go_at_call 26; have Gm7 := Gm6; clear Gm6; refine (Y1.out We (Below.refl _ _)).mono ?_; rintro e w7 ⟨rfl, b7⟩; have j7 := b7; obtain ⟨d7_0, d7_1, d7_2, d7_3, d7_4, d7_5, d7_6, d7_7⟩ := SE.out w7 j7; obtain ⟨f7_0, f7_1⟩ := CE.out w7 j7)
            | (go_at_call 24; have Gm8 := Gm7; clear Gm7; refine (Y2.out w7 j7).mono ?_; rintro e w8 ⟨rfl, b8⟩; have j8 := j7.trans (b8.mono j7.size); obtain ⟨d8_0, d8_1, d8_2, d8_3, d8_4, d8_5, d8_6, d8_7⟩ := SE.out w8 j8; obtain ⟨f8_0, f8_1⟩ := CE.out w8 j8)
            | (go_at_call 11; refine (awake3_any w8).mono ?_; rintro e w20 ⟨rfl, b20⟩; have j20 := j8.trans (b20.mono j8.size)))
          go_ret
          exact ⟨rfl, Be.trans (j20.mono Be.size)⟩
        · obtain rfl : p1 = true := HPP.out rfl
          go_wp2_with (first
            | (go_at_call 26; have Gm7 := Gm6; clear Gm6; refine (Y1.out We (Below.refl _ _)).mono ?_; rintro e w7 ⟨rfl, b7⟩; have j7 := b7; obtain ⟨d7_0, d7_1, d7_2, d7_3, d7_4, d7_5, d7_6, d7_7⟩ := SE.out w7 j7; obtain ⟨f7_0, f7_1⟩ := CE.out w7 j7)
            | (go_at_call 24; have Gm8 := Gm7; clear Gm7; refine (Y2.out w7 j7).mono ?_; rintro e w8 ⟨rfl, b8⟩; have j8 := j7.trans (b8.mono j7.size); obtain ⟨d8_0, d8_1, d8_2, d8_3, d8_4, d8_5, d8_6, d8_7⟩ := SE.out w8 j8; obtain ⟨f8_0, f8_1⟩ := CE.out w8 j8)
            | (go_at_call 24; have Gm9 := Gm8; clear Gm8; refine (X1e.out w8 j8).mono ?_; rintro e w9 ⟨rfl, b9⟩; have j9 := j8.trans (b9.mono j8.size); obtain ⟨d9_0, d9_1, d9_2, d9_3, d9_4, d9_5, d9_6, d9_7⟩ := SE.out w9 j9; obtain ⟨f9_0, f9_1⟩ := CE.out w9 j9)
            | (go_at_call 11; refine (awake3_any w9).mono ?_; rintro e w20 ⟨rfl, b20⟩; have j20 := j9.trans (b20.mono j9.size))
            | (go_at_call 11; refine (awake3_any w8).mono ?_; rintro e w20 ⟨rfl, b20⟩; have j20 := j8.trans (b20.mono j8.size)))
          go_ret
          exact ⟨rfl, Be.trans (j20.mono Be.size)⟩

  · have hn : (q0 = false) ∨ (q0 = true ∧ q1 = false) ∨ (q0 = true ∧ q1 = true ∧ q2 = false) ∨ (q0 = true ∧ q1 = true ∧ q2 = true ∧ q3 = false) ∨ (q0 = true ∧ q1 = true ∧ q2 = true ∧ q3 = true ∧ q4 = false) ∨ (q0 = true ∧ q1 = true ∧ q2 = true ∧ q3 = true ∧ q4 = true ∧ q5 = false) := by
      cases q0 <;> cases q1 <;> cases q2 <;> cases q3 <;> cases q4 <;> cases q5 <;> simp at hall ⊢
    clear hall HI HN HQ
    rcases hn with rfl | ⟨rfl, rfl⟩ | ⟨rfl, rfl, rfl⟩ | ⟨rfl, rfl, rfl, rfl⟩ | ⟨rfl, rfl, rfl, rfl, rfl⟩ | ⟨rfl, rfl, rfl, rfl, rfl, rfl⟩
    all_goals
      go_enter Try.func6, Try.ntmps6
      go_wp2_with (first
        | (go_at_call 10; have G1 := G0; clear G0; refine (K0.out _ (Below.refl _ _)).mono ?_; rintro e w1 ⟨rfl, b1⟩; have j1 := b1; obtain ⟨d1_0, d1_1, d1_2, d1_3, d1_4, d1_5, d1_6, d1_7⟩ := HC.out w1 j1)
        | (go_at_call 10; have G2 := G1; clear G1; refine (K1.out w1 j1).mono ?_; rintro e w2 ⟨rfl, b2⟩; have j2 := j1.trans (b2.mono j1.size); obtain ⟨d2_0, d2_1, d2_2, d2_3, d2_4, d2_5, d2_6, d2_7⟩ := HC.out w2 j2)
        | (go_at_call 9; have G3 := G2; clear G2; refine (K2.out w2 j2).mono ?_; rintro e w3 ⟨rfl, b3⟩; have j3 := j2.trans (b3.mono j2.size); obtain ⟨d3_0, d3_1, d3_2, d3_3, d3_4, d3_5, d3_6, d3_7⟩ := HC.out w3 j3)
        | (go_at_call 9; have G4 := G3; clear G3; refine (K3.out w3 j3).mono ?_; rintro e w4 ⟨rfl, b4⟩; have j4 := j3.trans (b4.mono j3.size); obtain ⟨d4_0, d4_1, d4_2, d4_3, d4_4, d4_5, d4_6, d4_7⟩ := HC.out w4 j4)
        | (go_at_call 9; have G5 := G4; clear G4; refine (K4.out w4 j4).mono ?_; rintro e w5 ⟨rfl, b5⟩; have j5 := j4.trans (b5.mono j4.size); obtain ⟨d5_0, d5_1, d5_2, d5_3, d5_4, d5_5, d5_6, d5_7⟩ := HC.out w5 j5)
        | (go_at_call 9; have G6 := G5; clear G5; refine (K5.out w5 j5).mono ?_; rintro e w6 ⟨rfl, b6⟩; have j6 := j5.trans (b6.mono j5.size); obtain ⟨d6_0, d6_1, d6_2, d6_3, d6_4, d6_5, d6_6, d6_7⟩ := HC.out w6 j6)
        | (go_at_call 11; refine (awake3_any w6).mono ?_; rintro e w20 ⟨rfl, b20⟩; have j20 := j6.trans (b20.mono j6.size))
        | (go_at_call 11; refine (awake3_any w5).mono ?_; rintro e w20 ⟨rfl, b20⟩; have j20 := j5.trans (b20.mono j5.size))
        | (go_at_call 11; refine (awake3_any w4).mono ?_; rintro e w20 ⟨rfl, b20⟩; have j20 := j4.trans (b20.mono j4.size))
        | (go_at_call 11; refine (awake3_any w3).mono ?_; rintro e w20 ⟨rfl, b20⟩; have j20 := j3.trans (b20.mono j3.size))
        | (go_at_call 11; refine (awake3_any w2).mono ?_; rintro e w20 ⟨rfl, b20⟩; have j20 := j2.trans (b20.mono j2.size))
        | (go_at_call 11; refine (awake3_any w1).mono ?_; rintro e w20 ⟨rfl, b20⟩; have j20 := j1.trans (b20.mono j1.size)))
      go_ret
      exact ⟨rfl, HB.out.trans (j20.mono HB.out.size)⟩
end Go.Proofs.Ytgkpdkdkpmkgdaa
