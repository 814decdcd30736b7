/- The law on what is asked of labels: the walk. -/
import Derived.BigQuiet
import Derived.Deep.DeepCutAuto
import Derived.Deep.RegionHeld3
import Derived.Test.YtgkpdkdkpmkgdaaAsksL
import Derived.Test.YtgkpdkdkpmkgdaaBackL
import Derived.Test.YtgkpdkdkpmkgdaaWrapA
import Derived.Test.YtgkpdkdkpmkgdaaWrapC
import Derived.Test.YtgkpdkdkpmkgdaaAwake
import Derived.Test.YtgkpdkdkpmkgdaaSets
namespace Go.Proofs.Ytgkpdkdkpmkgdaa
open Go.RowKit
set_option linter.unusedVariables false
set_option maxRecDepth 100000 in
set_option maxHeartbeats 4000000 in
theorem asks_any (a b c d e f g p t : Value) (la lb lc ld le lf lg lp lt : List Int) (w : World) (ha : IntsAt w a la) (hb : IntsAt w b lb) (hc : IntsAt w c lc) (hd : IntsAt w d ld) (he : IntsAt w e le) (hf : IntsAt w f lf) (hg : IntsAt w g lg) (hp : IntsAt w p lp) (ht : IntsAt w t lt)
    (na : la.length ≤ 17592186043904) (nb : lb.length ≤ 17592186043904) (nc : lc.length ≤ 17592186043904) (nd : ld.length ≤ 17592186043904) (ne : le.length ≤ 17592186043904) (nf : lf.length ≤ 17592186043904) (ng : lg.length ≤ 17592186043904) (np : lp.length ≤ 17592186043904) (nt : lt.length ≤ 17592186043904) :
    Calls Try.prog 7 #[.agg #[a, b], .agg #[c, d], .agg #[e, f], .agg #[g, p], t] w fun e w' => e = .returned (.bool true) ∧ Below w.heap.size w w' := by
  obtain ⟨aoa, ma, ca, rfl⟩ := ha.shape3
  obtain ⟨aob, mb, cb, rfl⟩ := hb.shape3
  obtain ⟨aoc, mc, cc, rfl⟩ := hc.shape3
  obtain ⟨aod, md, cd, rfl⟩ := hd.shape3
  obtain ⟨aoe, me, ce, rfl⟩ := he.shape3
  obtain ⟨aof, mf, cf, rfl⟩ := hf.shape3
  obtain ⟨aog, mg, cg, rfl⟩ := hg.shape3
  obtain ⟨aop, mp, cp, rfl⟩ := hp.shape3
  obtain ⟨aot, mt, ct, rfl⟩ := ht.shape3
  obtain ⟨W, hW, hbel, hWs, hcell⟩ := box4 w (.slice aoa ma ca) (.slice aob mb cb) (.slice aoc mc cc) (.slice aod md cd) (.slice aoe me ce) (.slice aof mf cf) (.slice aog mg cg) (.slice aop mp cp) 26 26 37 37
  have hI : ∀ W', Below W.heap.size W W' → IntsAt W' (.slice aoa ma ca) la ∧ IntsAt W' (.slice aob mb cb) lb ∧ IntsAt W' (.slice aoc mc cc) lc ∧ IntsAt W' (.slice aod md cd) ld ∧ IntsAt W' (.slice aoe me ce) le ∧ IntsAt W' (.slice aof mf cf) lf ∧ IntsAt W' (.slice aog mg cg) lg ∧ IntsAt W' (.slice aop mp cp) lp ∧ IntsAt W' (.slice aot mt ct) lt := fun W' h =>
    have k := hbel.trans (h.mono hbel.size)
    ⟨ha.below k (Nat.le_refl _), hb.below k (Nat.le_refl _), hc.below k (Nat.le_refl _), hd.below k (Nat.le_refl _), he.below k (Nat.le_refl _), hf.below k (Nat.le_refl _), hg.below k (Nat.le_refl _), hp.below k (Nat.le_refl _), ht.below k (Nat.le_refl _)⟩
  have hn : (la.length ≤ 17592186043904 ∧ lb.length ≤ 17592186043904 ∧ lc.length ≤ 17592186043904 ∧ ld.length ≤ 17592186043904 ∧ le.length ≤ 17592186043904 ∧ lf.length ≤ 17592186043904 ∧ lg.length ≤ 17592186043904 ∧ lp.length ≤ 17592186043904 ∧ lt.length ≤ 17592186043904) := ⟨na, nb, nc, nd, ne, nf, ng, np, nt⟩
  have HN := Lib.hid hn
  obtain ⟨q0, hq0⟩ : ∃ s, s = (setL la && setL lb) := ⟨_, rfl⟩
  obtain ⟨q1, hq1⟩ : ∃ s, s = (setL lc && setL ld) := ⟨_, rfl⟩
  obtain ⟨q2, hq2⟩ : ∃ s, s = (setL le && setL lf) := ⟨_, rfl⟩
  obtain ⟨q3, hq3⟩ : ∃ s, s = (setL lg && setL lp) := ⟨_, rfl⟩
  have HQ : Hid (q0 = (setL la && setL lb) ∧ q1 = (setL lc && setL ld) ∧ q2 = (setL le && setL lf) ∧ q3 = (setL lg && setL lp)) := ⟨hq0, hq1, hq2, hq3⟩
  have r0 : ∀ W', Below W.heap.size W W' → Calls Try.prog 28 #[.agg #[.slice aoa ma ca, .slice aob mb cb]] W' fun e w' => e = .returned (.bool q0) ∧ Below W'.heap.size W' w' := fun  W' h => by
    have := refmay_any _ _ la lb W' (hI W' h).1 (hI W' h).2.1 HN.out.1 HN.out.2.1
    rw [show (setL la && setL lb) = q0 from hq0.symm] at this
    exact this
  have r1 : ∀ W', Below W.heap.size W W' → Calls Try.prog 28 #[.agg #[.slice aoc mc cc, .slice aod md cd]] W' fun e w' => e = .returned (.bool q1) ∧ Below W'.heap.size W' w' := fun  W' h => by
    have := refmay_any _ _ lc ld W' (hI W' h).2.2.1 (hI W' h).2.2.2.1 HN.out.2.2.1 HN.out.2.2.2.1
    rw [show (setL lc && setL ld) = q1 from hq1.symm] at this
    exact this
  have r2 : ∀ W', Below W.heap.size W W' → Calls Try.prog 28 #[.agg #[.slice aoe me ce, .slice aof mf cf]] W' fun e w' => e = .returned (.bool q2) ∧ Below W'.heap.size W' w' := fun  W' h => by
    have := refmay_any _ _ le lf W' (hI W' h).2.2.2.2.1 (hI W' h).2.2.2.2.2.1 HN.out.2.2.2.2.1 HN.out.2.2.2.2.2.1
    rw [show (setL le && setL lf) = q2 from hq2.symm] at this
    exact this
  have r3 : ∀ W', Below W.heap.size W W' → Calls Try.prog 28 #[.agg #[.slice aog mg cg, .slice aop mp cp]] W' fun e w' => e = .returned (.bool q3) ∧ Below W'.heap.size W' w' := fun  W' h => by
    have := refmay_any _ _ lg lp W' (hI W' h).2.2.2.2.2.2.1 (hI W' h).2.2.2.2.2.2.2.1 HN.out.2.2.2.2.2.2.1 HN.out.2.2.2.2.2.2.2.1
    rw [show (setL lg && setL lp) = q3 from hq3.symm] at this
    exact this
  have y0 : ∀ W', Below W.heap.size W W' → Calls Try.prog 10 #[.agg #[.slice aoa ma ca, .slice aob mb cb]] W' fun e w' => e = .returned (.bool q0) ∧ Below W'.heap.size W' w' := fun  W' h => by
    have := may_any _ _ la lb W' (hI W' h).1 (hI W' h).2.1 HN.out.1 HN.out.2.1
    rw [show (setL la && setL lb) = q0 from hq0.symm] at this
    exact this
  have y1 : ∀ W', Below W.heap.size W W' → Calls Try.prog 10 #[.agg #[.slice aoc mc cc, .slice aod md cd]] W' fun e w' => e = .returned (.bool q1) ∧ Below W'.heap.size W' w' := fun  W' h => by
    have := may_any _ _ lc ld W' (hI W' h).2.2.1 (hI W' h).2.2.2.1 HN.out.2.2.1 HN.out.2.2.2.1
    rw [show (setL lc && setL ld) = q1 from hq1.symm] at this
    exact this
  have R0 := Lib.hid r0
  have R1 := Lib.hid r1
  have R2 := Lib.hid r2
  have R3 := Lib.hid r3
  have Y0 := Lib.hid y0
  have Y1 := Lib.hid y1
  have HC := Lib.hid hcell
  have HB := Lib.hid hbel
  have HI := Lib.hid hI
  obtain ⟨G0⟩ : Nonempty Nat := ⟨0⟩
  clear hcell hI hWs hbel hn hq0 hq1 hq2 hq3 r0 r1 r2 r3 y0 y1 ha hb hc hd he hf hg hp ht na nb nc nd ne nf ng np nt
  by_cases hall : (q0 && q1 && q2 && q3) = true
  · obtain ⟨⟨⟨rfl, rfl⟩, rfl⟩, rfl⟩ : ((q0 = true ∧ q1 = true) ∧ q2 = true) ∧ q3 = true := by simpa using hall
    clear hall
    go_enter Try.func7, Try.ntmps7
    go_upto_region 1 with (fail)
    rw [← hW]
    clear hW
    obtain ⟨d0_0, d0_1, d0_2, d0_3, d0_4, d0_5, d0_6, d0_7⟩ := HC.out W (Below.refl _ _)
    have hs0 : (setL la = true ∧ setL lb = true) ∧ (setL lc = true ∧ setL ld = true) := by
      have h1 := HQ.out.1
      have h2 := HQ.out.2.1
      simp at h1 h2
      exact ⟨h1, h2⟩
    have HS0 := Lib.hid hs0
    clear hs0 HQ
    obtain ⟨pok, hpok⟩ : ∃ s, s = (joinOk le lg && joinOk lf lp) := ⟨_, rfl⟩
    obtain ⟨lx, hlx⟩ : ∃ l, l = onlyIf pok (joinL le lg) := ⟨_, rfl⟩
    obtain ⟨ly, hly⟩ : ∃ l, l = onlyIf pok (joinL lf lp) := ⟨_, rfl⟩
    have cm : ∀ W', Below W.heap.size W W' → Calls Try.prog 25 #[.agg #[.slice aoe me ce, .slice aof mf cf], .agg #[.slice aog mg cg, .slice aop mp cp]] W' fun e w' => ∃ x y, e = .returned (.tuple #[.agg #[x, y], .bool pok]) ∧ IntsAt w' x lx ∧ IntsAt w' y ly ∧ Below W'.heap.size W' w' := fun W' h => by
      rw [hlx, hly, hpok]
      exact more_any _ _ _ _ le lf lg lp W' (HI.out W' h).2.2.2.2.1 (HI.out W' h).2.2.2.2.2.1 (HI.out W' h).2.2.2.2.2.2.1 (HI.out W' h).2.2.2.2.2.2.2.1 HN.out.2.2.2.2.1 HN.out.2.2.2.2.2.1 HN.out.2.2.2.2.2.2.1 HN.out.2.2.2.2.2.2.2.1
    have cn : ∀ W', Below W.heap.size W W' → Calls Try.prog 29 #[.agg #[.slice aoe me ce, .slice aof mf cf], .agg #[.slice aog mg cg, .slice aop mp cp]] W' fun e w' => ∃ x y, e = .returned (.tuple #[.agg #[x, y], .bool pok]) ∧ IntsAt w' x lx ∧ IntsAt w' y ly ∧ Below W'.heap.size W' w' := fun W' h => by
      rw [hlx, hly, hpok]
      exact refmore_any _ _ _ _ le lf lg lp W' (HI.out W' h).2.2.2.2.1 (HI.out W' h).2.2.2.2.2.1 (HI.out W' h).2.2.2.2.2.2.1 (HI.out W' h).2.2.2.2.2.2.2.1 HN.out.2.2.2.2.1 HN.out.2.2.2.2.2.1 HN.out.2.2.2.2.2.2.1 HN.out.2.2.2.2.2.2.2.1
    have hxy : lx.length ≤ 17592186043904 ∧ ly.length ≤ 17592186043904 := by
      rw [hlx, hly]
      unfold onlyIf
      have h1 := joinL_few le lg
      have h2 := joinL_few lf lp
      split
      · exact ⟨by omega, by omega⟩
      · exact ⟨Nat.zero_le _, Nat.zero_le _⟩
    have HXY := Lib.hid hxy
    have Cm := Lib.hid cm
    have Cn := Lib.hid cn
    clear hxy cm cn hlx hly hpok
    go_upto_region 4 with (first
      | (go_at_call 28; have G1 := G0; clear G0; refine (R0.out W (Below.refl _ _)).mono ?_; rintro e w1 ⟨rfl, b1⟩; have j1 := b1; obtain ⟨d1_0, d1_1, d1_2, d1_3, d1_4, d1_5, d1_6, d1_7⟩ := HC.out w1 j1)
      | (go_at_call 28; have G2 := G1; clear G1; refine (R1.out w1 j1).mono ?_; rintro e w2 ⟨rfl, b2⟩; have j2 := j1.trans (b2.mono j1.size); obtain ⟨d2_0, d2_1, d2_2, d2_3, d2_4, d2_5, d2_6, d2_7⟩ := HC.out w2 j2)
      | (go_at_call 28; have G3 := G2; clear G2; refine (R2.out w2 j2).mono ?_; rintro e w3 ⟨rfl, b3⟩; have j3 := j2.trans (b3.mono j2.size); obtain ⟨d3_0, d3_1, d3_2, d3_3, d3_4, d3_5, d3_6, d3_7⟩ := HC.out w3 j3)
      | (go_at_call 28; have G4 := G3; clear G3; refine (R3.out w3 j3).mono ?_; rintro e w4 ⟨rfl, b4⟩; have j4 := j3.trans (b4.mono j3.size); obtain ⟨d4_0, d4_1, d4_2, d4_3, d4_4, d4_5, d4_6, d4_7⟩ := HC.out w4 j4)
      | (go_at_call 25; refine (Cm.out w4 j4).mono ?_; rintro e w5 ⟨vx, vy, rfl, ix, iy, b5⟩; have j5 := j4.trans (b5.mono j4.size); obtain ⟨aox, mx, cx, rfl⟩ := ix.shape3; obtain ⟨aoy, my, cy, rfl⟩ := iy.shape3))
    clear d1_0 d1_1 d1_2 d1_3 d1_4 d1_5 d1_6 d1_7 d2_0 d2_1 d2_2 d2_3 d2_4 d2_5 d2_6 d2_7 d3_0 d3_1 d3_2 d3_3 d3_4 d3_5 d3_6 d3_7 d4_0 d4_1 d4_2 d4_3 d4_4 d4_5 d4_6 d4_7 j1 b1 j2 b2 j3 b3 j4 b4 d0_0 d0_1 d0_2 d0_3 d0_4 d0_5 d0_6 d0_7
    obtain ⟨Wm, hWm, bm, sm, cmm⟩ := box1 w5 (.slice aox mx cx) (.slice aoy my cy) 37
    rw [← hWm]
    clear hWm
    have jm := j5.trans (bm.mono j5.size)
    obtain ⟨e0, e1, e2, e3, e4, e5, e6, e7⟩ := HC.out Wm jm
    go_upto_region 5 with (go_at_call 29; refine (Cn.out Wm jm).mono ?_; rintro e w6 ⟨vz, vw, rfl, iz, iw, b6⟩; obtain ⟨aoz, mz, cz, rfl⟩ := iz.shape3; obtain ⟨aow, mw, cw, rfl⟩ := iw.shape3)
    have j6 := jm.trans (b6.mono jm.size)
    obtain ⟨Wn, hWn, bn, sn, cnn⟩ := box1 w6 (.slice aoz mz cz) (.slice aow mw cw) 37
    rw [← hWn]
    clear hWn
    have jn := j6.trans (bn.mono j6.size)
    have Bn : Below w.heap.size w Wn := HB.out.trans (jn.mono HB.out.size)
    have km : Below Wm.heap.size Wm Wn := b6.trans (bn.mono b6.size)
    have SA : Hid (∀ W', Below Wn.heap.size Wn W' → _) := Lib.hid fun W' h => HC.out W' (jn.trans (h.mono jn.size))
    have SM : Hid (∀ W', Below Wn.heap.size Wn W' → _) := Lib.hid fun W' h => cmm W' (km.trans (h.mono km.size))
    have SN := Lib.hid cnn
    have hI : ∀ W', Below Wn.heap.size Wn W' → IntsAt W' (.slice aoa ma ca) la ∧ IntsAt W' (.slice aob mb cb) lb ∧ IntsAt W' (.slice aoc mc cc) lc ∧ IntsAt W' (.slice aod md cd) ld ∧ IntsAt W' (.slice aoe me ce) le ∧ IntsAt W' (.slice aof mf cf) lf ∧ IntsAt W' (.slice aog mg cg) lg ∧ IntsAt W' (.slice aop mp cp) lp ∧ IntsAt W' (.slice aot mt ct) lt := fun W' h => HI.out W' (jn.trans (h.mono jn.size))
    have hX : Hid (∀ W', Below Wn.heap.size Wn W' → IntsAt W' (.slice aox mx cx) lx ∧ IntsAt W' (.slice aoy my cy) ly ∧ IntsAt W' (.slice aoz mz cz) lx ∧ IntsAt W' (.slice aow mw cw) ly) := Lib.hid fun W' h => have k := bm.trans ((km.trans (h.mono km.size)).mono bm.size); have k2 := bn.trans (h.mono bn.size); ⟨ix.below k (Nat.le_refl _), iy.below k (Nat.le_refl _), iz.below k2 (Nat.le_refl _), iw.below k2 (Nat.le_refl _)⟩
    clear cmm cnn e0 e1 e2 e3 e4 e5 e6 e7 sm sn bm bn b5 b6 j5 j6 jm ix iy iz iw HC HI Cm Cn R0 R1 R2 R3 Y1 km
    have T1 : Hid (∀ W', Below Wn.heap.size Wn W' → _) := Lib.hid fun W' h => Y0.out W' (jn.trans (h.mono jn.size))
    clear Y0
    obtain ⟨p1, hp1⟩ : ∃ s, s = (subL la lc && subL lc la && subL lb ld && subL ld lb) := ⟨_, rfl⟩
    obtain ⟨p2, hp2⟩ : ∃ s, s = (subL la lc && subL ld lb) := ⟨_, rfl⟩
    obtain ⟨p3, hp3⟩ : ∃ s, s = safeL la lc le lf := ⟨_, rfl⟩
    obtain ⟨p4, hp4⟩ : ∃ s, s = (setL lc && setL ld && safeL la lc le lf && safeL lb ld le lf) := ⟨_, rfl⟩
    have t2 : ∀ W', Below Wn.heap.size Wn W' → Calls Try.prog 23 #[.agg #[.slice aoa ma ca, .slice aob mb cb], .agg #[.slice aoc mc cc, .slice aod md cd]] W' fun e w' => e = .returned (.bool p1) ∧ Below W'.heap.size W' w' := fun  W' h => by
      have := lsame_any _ _ _ _ la lb lc ld W' (hI W' h).1 (hI W' h).2.1 (hI W' h).2.2.1 (hI W' h).2.2.2.1 HN.out.1 HN.out.2.1 HN.out.2.2.1 HN.out.2.2.2.1
      rw [show (subL la lc && subL lc la && subL lb ld && subL ld lb) = p1 from hp1.symm] at this
      exact this
    have t3 : ∀ W', Below Wn.heap.size Wn W' → Calls Try.prog 30 #[.agg #[.slice aoa ma ca, .slice aob mb cb], .agg #[.slice aoc mc cc, .slice aod md cd]] W' fun e w' => e = .returned (.bool p1) ∧ Below W'.heap.size W' w' := fun  W' h => by
      have := refsame_any _ _ _ _ la lb lc ld W' (hI W' h).1 (hI W' h).2.1 (hI W' h).2.2.1 (hI W' h).2.2.2.1 HN.out.1 HN.out.2.1 HN.out.2.2.1 HN.out.2.2.2.1
      rw [show (decide (la = lc) && decide (lb = ld)) = p1 from ((same_labels HS0.out.1.1 HS0.out.1.2 HS0.out.2.1 HS0.out.2.2).symm.trans hp1.symm)] at this
      exact this
    have t4 : ∀ W', Below Wn.heap.size Wn W' → Calls Try.prog 22 #[.agg #[.slice aoa ma ca, .slice aob mb cb], .agg #[.slice aoc mc cc, .slice aod md cd]] W' fun e w' => e = .returned (.bool p2) ∧ Below W'.heap.size W' w' := fun  W' h => by
      have := flows_any _ _ _ _ la lb lc ld W' (hI W' h).1 (hI W' h).2.1 (hI W' h).2.2.1 (hI W' h).2.2.2.1 HN.out.1 HN.out.2.1 HN.out.2.2.1 HN.out.2.2.2.1
      rw [show (subL la lc && subL ld lb) = p2 from hp2.symm] at this
      exact this
    have t5 : ∀ W', Below Wn.heap.size Wn W' → Calls Try.prog 31 #[.agg #[.slice aoa ma ca, .slice aob mb cb], .agg #[.slice aoc mc cc, .slice aod md cd]] W' fun e w' => e = .returned (.bool p2) ∧ Below W'.heap.size W' w' := fun  W' h => by
      have := refflows_any _ _ _ _ la lb lc ld W' (hI W' h).1 (hI W' h).2.1 (hI W' h).2.2.1 (hI W' h).2.2.2.1 HN.out.1 HN.out.2.1 HN.out.2.2.1 HN.out.2.2.2.1
      rw [show (subL la lc && subL ld lb) = p2 from hp2.symm] at this
      exact this
    have t6 : ∀ W', Below Wn.heap.size Wn W' → Calls Try.prog 32 #[.slice aoa ma ca, .slice aoc mc cc, .agg #[.slice aoe me ce, .slice aof mf cf]] W' fun e w' => e = .returned (.bool p3) ∧ Below W'.heap.size W' w' := fun  W' h => by
      have := safe_any _ _ _ _ la lc le lf W' (hI W' h).1 (hI W' h).2.2.1 (hI W' h).2.2.2.2.1 (hI W' h).2.2.2.2.2.1 HN.out.1 HN.out.2.2.1 HN.out.2.2.2.2.1 HN.out.2.2.2.2.2.1
      rw [show (safeL la lc le lf) = p3 from hp3.symm] at this
      exact this
    have t7 : ∀ W', Below Wn.heap.size Wn W' → Calls Try.prog 33 #[.slice aoa ma ca, .slice aoc mc cc, .agg #[.slice aoe me ce, .slice aof mf cf]] W' fun e w' => e = .returned (.bool p3) ∧ Below W'.heap.size W' w' := fun  W' h => by
      have := refsafe_any _ _ _ _ la lc le lf W' (hI W' h).1 (hI W' h).2.2.1 (hI W' h).2.2.2.2.1 (hI W' h).2.2.2.2.2.1 HN.out.1 HN.out.2.2.1 HN.out.2.2.2.2.1 HN.out.2.2.2.2.2.1
      rw [show (safeL la lc le lf) = p3 from hp3.symm] at this
      exact this
    have t8 : ∀ W', Below Wn.heap.size Wn W' → Calls Try.prog 24 #[.agg #[.slice aoa ma ca, .slice aob mb cb], .agg #[.slice aoc mc cc, .slice aod md cd], .agg #[.slice aoe me ce, .slice aof mf cf]] W' fun e w' => e = .returned (.bool p4) ∧ Below W'.heap.size W' w' := fun  W' h => by
      have := change_any _ _ _ _ _ _ la lb lc ld le lf W' (hI W' h).1 (hI W' h).2.1 (hI W' h).2.2.1 (hI W' h).2.2.2.1 (hI W' h).2.2.2.2.1 (hI W' h).2.2.2.2.2.1 HN.out.1 HN.out.2.1 HN.out.2.2.1 HN.out.2.2.2.1 HN.out.2.2.2.2.1 HN.out.2.2.2.2.2.1
      rw [show (setL lc && setL ld && safeL la lc le lf && safeL lb ld le lf) = p4 from hp4.symm] at this
      exact this
    have t9 : ∀ W', Below Wn.heap.size Wn W' → Calls Try.prog 34 #[.agg #[.slice aoa ma ca, .slice aob mb cb], .agg #[.slice aoc mc cc, .slice aod md cd], .agg #[.slice aoe me ce, .slice aof mf cf]] W' fun e w' => e = .returned (.bool p4) ∧ Below W'.heap.size W' w' := fun  W' h => by
      have := refchange_any _ _ _ _ _ _ la lb lc ld le lf W' (hI W' h).1 (hI W' h).2.1 (hI W' h).2.2.1 (hI W' h).2.2.2.1 (hI W' h).2.2.2.2.1 (hI W' h).2.2.2.2.2.1 HN.out.1 HN.out.2.1 HN.out.2.2.1 HN.out.2.2.2.1 HN.out.2.2.2.2.1 HN.out.2.2.2.2.2.1
      rw [show (setL lc && setL ld && safeL la lc le lf && safeL lb ld le lf) = p4 from hp4.symm] at this
      exact this
    have T2 := Lib.hid t2
    have T3 := Lib.hid t3
    have T4 := Lib.hid t4
    have T5 := Lib.hid t5
    have T6 := Lib.hid t6
    have T7 := Lib.hid t7
    have T8 := Lib.hid t8
    have T9 := Lib.hid t9
    have HI' := Lib.hid hI
    clear hI hp1 hp2 hp3 hp4 t2 t3 t4 t5 t6 t7 t8 t9
    go_cut [114] (fun s114 wx => s114 = .bool false ∧ Below Wn.heap.size Wn wx)
    case first =>
      have l0 : ∀ i : Lat Wn, i.w.cell? ⟨w.heap.size, 0, none⟩ = some (.slice aoa ma ca) := fun i => (SA.out i.w i.h).1
      have l1 : ∀ i : Lat Wn, i.w.cell? ⟨w.heap.size, 1, none⟩ = some (.slice aob mb cb) := fun i => (SA.out i.w i.h).2.1
      have l2 : ∀ i : Lat Wn, i.w.cell? ⟨w.heap.size + 1, 0, none⟩ = some (.slice aoc mc cc) := fun i => (SA.out i.w i.h).2.2.1
      have l3 : ∀ i : Lat Wn, i.w.cell? ⟨w.heap.size + 1, 1, none⟩ = some (.slice aod md cd) := fun i => (SA.out i.w i.h).2.2.2.1
      have l4 : ∀ i : Lat Wn, i.w.cell? ⟨w.heap.size + 1 + 1, 0, none⟩ = some (.slice aoe me ce) := fun i => (SA.out i.w i.h).2.2.2.2.1
      have l5 : ∀ i : Lat Wn, i.w.cell? ⟨w.heap.size + 1 + 1, 1, none⟩ = some (.slice aof mf cf) := fun i => (SA.out i.w i.h).2.2.2.2.2.1
      refine wp_region_lat (W := Wn) (by kernel_rfl) (by kernel_rfl) (Below.refl _ _) ?_
      iterate 47 (go_big_quiet_step ((first | (with_reducible exact Lat.call (T1.out _ (Lat.h _))) | (with_reducible exact Lat.call (T2.out _ (Lat.h _))) | (with_reducible exact Lat.call (T3.out _ (Lat.h _))) | (with_reducible exact Lat.call (T4.out _ (Lat.h _))) | (with_reducible exact Lat.call (T5.out _ (Lat.h _))) | (with_reducible exact Lat.call (T6.out _ (Lat.h _))) | (with_reducible exact Lat.call (T7.out _ (Lat.h _))) | (with_reducible exact Lat.call (T8.out _ (Lat.h _))) | (with_reducible exact Lat.call (T9.out _ (Lat.h _))))))
      refine wpQuiet_nil ?_
      rintro _ ⟨i, rfl⟩
      go_wp2_with (fail)
      go_meet
      exact ⟨rfl, i.h⟩
    case rest =>
      obtain ⟨rfl, hb⟩ := hcut
      clear T1 T2 T3 T4 T5 T6 T7 T8 T9
      have hd : Below Wn.heap.size Wn wc.drew := ⟨hb.os, hb.tape, hb.output, hb.size, hb.block⟩
      have HD := Lib.hid hd
      obtain ⟨p5, hp5⟩ : ∃ s, s = (subL le lg && subL lf lp) := ⟨_, rfl⟩
      obtain ⟨p6, hp6⟩ : ∃ s, s = decide (∀ x ∈ la, ¬ x ∈ lt) := ⟨_, rfl⟩
      have u1 : ∀ W', Below Wn.heap.size Wn W' → Calls Try.prog 26 #[.agg #[.slice aoe me ce, .slice aof mf cf], .agg #[.slice aog mg cg, .slice aop mp cp]] W' fun e w' => e = .returned (.bool p5) ∧ Below W'.heap.size W' w' := fun  W' h => by
        have := within_any _ _ _ _ le lf lg lp W' (HI'.out W' h).2.2.2.2.1 (HI'.out W' h).2.2.2.2.2.1 (HI'.out W' h).2.2.2.2.2.2.1 (HI'.out W' h).2.2.2.2.2.2.2.1 HN.out.2.2.2.2.1 HN.out.2.2.2.2.2.1 HN.out.2.2.2.2.2.2.1 HN.out.2.2.2.2.2.2.2.1
        rw [show (subL le lg && subL lf lp) = p5 from hp5.symm] at this
        exact this
      have u2 : ∀ W', Below Wn.heap.size Wn W' → Calls Try.prog 35 #[.agg #[.slice aoe me ce, .slice aof mf cf], .agg #[.slice aog mg cg, .slice aop mp cp]] W' fun e w' => e = .returned (.bool p5) ∧ Below W'.heap.size W' w' := fun  W' h => by
        have := refwithin_any _ _ _ _ le lf lg lp W' (HI'.out W' h).2.2.2.2.1 (HI'.out W' h).2.2.2.2.2.1 (HI'.out W' h).2.2.2.2.2.2.1 (HI'.out W' h).2.2.2.2.2.2.2.1 HN.out.2.2.2.2.1 HN.out.2.2.2.2.2.1 HN.out.2.2.2.2.2.2.1 HN.out.2.2.2.2.2.2.2.1
        rw [show (subL le lg && subL lf lp) = p5 from hp5.symm] at this
        exact this
      have u7 : ∀ W', Below Wn.heap.size Wn W' → Calls Try.prog 38 #[.agg #[.slice aoa ma ca, .slice aob mb cb], .slice aot mt ct] W' fun e w' => e = .returned (.bool p6) ∧ Below W'.heap.size W' w' := fun  W' h => by
        have := low_any _ _ _ la lb lt W' (HI'.out W' h).1 (HI'.out W' h).2.1 (HI'.out W' h).2.2.2.2.2.2.2.2 HN.out.1 HN.out.2.1 HN.out.2.2.2.2.2.2.2.2
        rw [show (decide (∀ x ∈ la, ¬ x ∈ lt)) = p6 from hp6.symm] at this
        exact this
      have u8 : ∀ W', Below Wn.heap.size Wn W' → Calls Try.prog 39 #[.agg #[.slice aoa ma ca, .slice aob mb cb], .slice aot mt ct] W' fun e w' => e = .returned (.bool p6) ∧ Below W'.heap.size W' w' := fun  W' h => by
        have := reflow_any _ _ _ la lb lt W' (HI'.out W' h).1 (HI'.out W' h).2.1 (HI'.out W' h).2.2.2.2.2.2.2.2 HN.out.1 HN.out.2.1 HN.out.2.2.2.2.2.2.2.2
        rw [show (decide (∀ x ∈ la, ¬ x ∈ lt)) = p6 from hp6.symm] at this
        exact this
      have u3 : ∀ W', Below Wn.heap.size Wn W' → Calls Try.prog 27 #[.agg #[.slice aoe me ce, .slice aof mf cf], .agg #[.slice aog mg cg, .slice aop mp cp]] W' fun e w' => ∃ x y, e = .returned (.agg #[x, y]) ∧ IntsAt w' x (lessL le lg) ∧ IntsAt w' y (lessL lf lp) ∧ Below W'.heap.size W' w' := fun W' h =>
        less_any _ _ _ _ le lf lg lp W' (HI'.out W' h).2.2.2.2.1 (HI'.out W' h).2.2.2.2.2.1 (HI'.out W' h).2.2.2.2.2.2.1 (HI'.out W' h).2.2.2.2.2.2.2.1 HN.out.2.2.2.2.1 HN.out.2.2.2.2.2.1 HN.out.2.2.2.2.2.2.1 HN.out.2.2.2.2.2.2.2.1
      have u4 : ∀ W', Below Wn.heap.size Wn W' → Calls Try.prog 37 #[.agg #[.slice aoe me ce, .slice aof mf cf], .agg #[.slice aog mg cg, .slice aop mp cp]] W' fun e w' => ∃ x y, e = .returned (.agg #[x, y]) ∧ IntsAt w' x (lessL le lg) ∧ IntsAt w' y (lessL lf lp) ∧ Below W'.heap.size W' w' := fun W' h =>
        refless_any _ _ _ _ le lf lg lp W' (HI'.out W' h).2.2.2.2.1 (HI'.out W' h).2.2.2.2.2.1 (HI'.out W' h).2.2.2.2.2.2.1 (HI'.out W' h).2.2.2.2.2.2.2.1 HN.out.2.2.2.2.1 HN.out.2.2.2.2.2.1 HN.out.2.2.2.2.2.2.1 HN.out.2.2.2.2.2.2.2.1
      have u5 : ∀ W' u v u2 v2, IntsAt W' u (lessL le lg) → IntsAt W' v (lessL lf lp) → IntsAt W' u2 (lessL le lg) → IntsAt W' v2 (lessL lf lp) → Calls Try.prog 36 #[.agg #[u, v], .agg #[u2, v2]] W' fun e w' => e = .returned (.bool true) ∧ Below W'.heap.size W' w' := fun W' u v u2 v2 h1 h2 h3 h4 => by
        have := samecaps_any u v u2 v2 _ _ _ _ W' h1 h2 h3 h4 (Nat.le_trans (lessL_length _ _) HN.out.2.2.2.2.1) (Nat.le_trans (lessL_length _ _) HN.out.2.2.2.2.2.1) (Nat.le_trans (lessL_length _ _) HN.out.2.2.2.2.1) (Nat.le_trans (lessL_length _ _) HN.out.2.2.2.2.2.1)
        simpa using this
      have u6 : ∀ W', Below Wn.heap.size Wn W' → Calls Try.prog 36 #[.agg #[.slice aox mx cx, .slice aoy my cy], .agg #[.slice aoz mz cz, .slice aow mw cw]] W' fun e w' => e = .returned (.bool true) ∧ Below W'.heap.size W' w' := fun W' h => by
        have := samecaps_any _ _ _ _ _ _ _ _ W' (hX.out W' h).1 (hX.out W' h).2.1 (hX.out W' h).2.2.1 (hX.out W' h).2.2.2 HXY.out.1 HXY.out.2 HXY.out.1 HXY.out.2
        simpa using this
      have U1 := Lib.hid u1
      have U2 := Lib.hid u2
      have U3 := Lib.hid u3
      have U4 := Lib.hid u4
      have U5 := Lib.hid u5
      have U6 := Lib.hid u6
      have U7 := Lib.hid u7
      have U8 := Lib.hid u8
      have HSS : Hid (∀ w', Below Wn.heap.size Wn w' → Below Wn.heap.size Wn w' ∧ w'.cell? ⟨w.heap.size, 0, none⟩ = some (.slice aoa ma ca) ∧ w'.cell? ⟨w.heap.size, 1, none⟩ = some (.slice aob mb cb) ∧ w'.cell? ⟨w.heap.size + 1 + 1, 0, none⟩ = some (.slice aoe me ce) ∧ w'.cell? ⟨w.heap.size + 1 + 1, 1, none⟩ = some (.slice aof mf cf) ∧ w'.cell? ⟨w.heap.size + 1 + 1 + 1, 0, none⟩ = some (.slice aog mg cg) ∧ w'.cell? ⟨w.heap.size + 1 + 1 + 1, 1, none⟩ = some (.slice aop mp cp) ∧ w'.cell? ⟨w5.heap.size, 0, none⟩ = some (.slice aox mx cx) ∧ w'.cell? ⟨w5.heap.size, 1, none⟩ = some (.slice aoy my cy) ∧ w'.cell? ⟨w6.heap.size, 0, none⟩ = some (.slice aoz mz cz) ∧ w'.cell? ⟨w6.heap.size, 1, none⟩ = some (.slice aow mw cw)) := Lib.hid fun w' h => ⟨h, (SA.out w' h).1, (SA.out w' h).2.1, (SA.out w' h).2.2.2.2.1, (SA.out w' h).2.2.2.2.2.1, (SA.out w' h).2.2.2.2.2.2.1, (SA.out w' h).2.2.2.2.2.2.2, (SM.out w' h).1, (SM.out w' h).2, (SN.out w' h).1, (SN.out w' h).2⟩
      obtain ⟨Gm0⟩ : Nonempty Nat := ⟨0⟩
      clear hd hp5 hp6 u1 u2 u3 u4 u5 u6 u7 u8 SA SM SN HI' hX HXY HN HS0 hb jn
      go_wp2_with (fail)
      go_region_held3 (fun w' => Below Wn.heap.size Wn w' ∧ w'.cell? ⟨w.heap.size, 0, none⟩ = some (.slice aoa ma ca) ∧ w'.cell? ⟨w.heap.size, 1, none⟩ = some (.slice aob mb cb) ∧ w'.cell? ⟨w.heap.size + 1 + 1, 0, none⟩ = some (.slice aoe me ce) ∧ w'.cell? ⟨w.heap.size + 1 + 1, 1, none⟩ = some (.slice aof mf cf) ∧ w'.cell? ⟨w.heap.size + 1 + 1 + 1, 0, none⟩ = some (.slice aog mg cg) ∧ w'.cell? ⟨w.heap.size + 1 + 1 + 1, 1, none⟩ = some (.slice aop mp cp) ∧ w'.cell? ⟨w5.heap.size, 0, none⟩ = some (.slice aox mx cx) ∧ w'.cell? ⟨w5.heap.size, 1, none⟩ = some (.slice aoy my cy) ∧ w'.cell? ⟨w6.heap.size, 0, none⟩ = some (.slice aoz mz cz) ∧ w'.cell? ⟨w6.heap.size, 1, none⟩ = some (.slice aow mw cw)) (first | exact HSS.out _ HD.out | exact HSS.out _ k39 | exact HSS.out _ k38 | exact HSS.out _ k37 | exact HSS.out _ k36 | exact HSS.out _ k35 | exact HSS.out _ k34 | exact HSS.out _ k33 | exact HSS.out _ k32 | exact HSS.out _ k31 | go_keep) ((first
        | (go_at_call 26; refine (U1.out _ HD.out).mono ?_; rintro e w31 ⟨rfl, b31⟩; have k31 := HD.out.trans (b31.mono HD.out.size))
        | (go_at_call 35; refine (U2.out _ k31).mono ?_; rintro e w32 ⟨rfl, b32⟩; have k32 := k31.trans (b32.mono k31.size))
        | (go_at_call 27; refine (U3.out _ k32).mono ?_; rintro e w33 ⟨u, v, rfl, iu, iv, b33⟩; have k33 := k32.trans (b33.mono k32.size))
        | (go_at_call 37; refine (U4.out _ k33).mono ?_; rintro e w34 ⟨u2, v2, rfl, iu2, iv2, b34⟩; have k34 := k33.trans (b34.mono k33.size); have iu3 := iu.below b34 (Nat.le_refl _); have iv3 := iv.below b34 (Nat.le_refl _))
        | (go_at_call 36; have Gm1 := Gm0; clear Gm0; refine (U5.out _ _ _ _ _ iu3 iv3 iu2 iv2).mono ?_; rintro e w35 ⟨rfl, b35⟩; have k35 := k34.trans (b35.mono k34.size))
        | (go_at_call 36; have Gm2 := Gm1; clear Gm1; refine (U6.out _ k35).mono ?_; rintro e w36 ⟨rfl, b36⟩; have k36 := k35.trans (b36.mono k35.size))
        | (go_at_call 38; refine (U7.out _ k36).mono ?_; rintro e w37 ⟨rfl, b37⟩; have k37 := k36.trans (b37.mono k36.size))
        | (go_at_call 39; refine (U8.out _ k37).mono ?_; rintro e w38 ⟨rfl, b38⟩; have k38 := k37.trans (b38.mono k37.size))
        | (go_at_call 11; refine (awake3_any _).mono ?_; rintro e w39 ⟨rfl, b39⟩; have k39 := k38.trans (b39.mono k38.size))))
      all_goals
        go_wp2
        go_ret
        exact ⟨rfl, Bn.trans (k39.mono Bn.size)⟩
  · have hn : (q0 = false) ∨ (q0 = true ∧ q1 = false) ∨ (q0 = true ∧ q1 = true ∧ q2 = false) ∨ (q0 = true ∧ q1 = true ∧ q2 = true ∧ q3 = false) := by
      cases q0 <;> cases q1 <;> cases q2 <;> cases q3 <;> simp at hall ⊢
    clear hall HI HQ HN
    rcases hn with rfl | ⟨rfl, rfl⟩ | ⟨rfl, rfl, rfl⟩ | ⟨rfl, rfl, rfl, rfl⟩
    all_goals
      go_enter Try.func7, Try.ntmps7
      go_upto_region 1 with (fail)
      rw [← hW]
      clear hW
      obtain ⟨d0_0, d0_1, d0_2, d0_3, d0_4, d0_5, d0_6, d0_7⟩ := HC.out W (Below.refl _ _)
      go_upto_region 2 with (first
        | (go_at_call 28; have G1 := G0; clear G0; refine (R0.out W (Below.refl _ _)).mono ?_; rintro e w1 ⟨rfl, b1⟩; have j1 := b1; obtain ⟨d1_0, d1_1, d1_2, d1_3, d1_4, d1_5, d1_6, d1_7⟩ := HC.out w1 j1)
        | (go_at_call 28; have G2 := G1; clear G1; refine (R1.out w1 j1).mono ?_; rintro e w2 ⟨rfl, b2⟩; have j2 := j1.trans (b2.mono j1.size); obtain ⟨d2_0, d2_1, d2_2, d2_3, d2_4, d2_5, d2_6, d2_7⟩ := HC.out w2 j2)
        | (go_at_call 28; have G3 := G2; clear G2; refine (R2.out w2 j2).mono ?_; rintro e w3 ⟨rfl, b3⟩; have j3 := j2.trans (b3.mono j2.size); obtain ⟨d3_0, d3_1, d3_2, d3_3, d3_4, d3_5, d3_6, d3_7⟩ := HC.out w3 j3)
        | (go_at_call 28; have G4 := G3; clear G3; refine (R3.out w3 j3).mono ?_; rintro e w4 ⟨rfl, b4⟩; have j4 := j3.trans (b4.mono j3.size); obtain ⟨d4_0, d4_1, d4_2, d4_3, d4_4, d4_5, d4_6, d4_7⟩ := HC.out w4 j4))
      have l0 : ∀ i : Lat W, i.w.cell? ⟨w.heap.size, 0, none⟩ = some (.slice aoa ma ca) := fun i => (HC.out i.w i.h).1
      have l1 : ∀ i : Lat W, i.w.cell? ⟨w.heap.size, 1, none⟩ = some (.slice aob mb cb) := fun i => (HC.out i.w i.h).2.1
      have l2 : ∀ i : Lat W, i.w.cell? ⟨w.heap.size + 1, 0, none⟩ = some (.slice aoc mc cc) := fun i => (HC.out i.w i.h).2.2.1
      have l3 : ∀ i : Lat W, i.w.cell? ⟨w.heap.size + 1, 1, none⟩ = some (.slice aod md cd) := fun i => (HC.out i.w i.h).2.2.2.1
      refine wp_region_lat (W := W) (by kernel_rfl) (by kernel_rfl) (by first | exact j4 | exact j3 | exact j2 | exact j1) ?_
      iterate 16 (go_big_quiet_step ((first | (with_reducible exact Lat.call (R0.out _ (Lat.h _))) | (with_reducible exact Lat.call (R1.out _ (Lat.h _))) | (with_reducible exact Lat.call (Y0.out _ (Lat.h _))) | (with_reducible exact Lat.call (Y1.out _ (Lat.h _))) | (with_reducible exact Lat.call (awake3_any _)))))
      refine wpQuiet_nil ?_
      rintro _ ⟨i, rfl⟩
      go_wp2
      go_ret
      exact ⟨rfl, HB.out.trans (i.h.mono HB.out.size)⟩
end Go.Proofs.Ytgkpdkdkpmkgdaa
