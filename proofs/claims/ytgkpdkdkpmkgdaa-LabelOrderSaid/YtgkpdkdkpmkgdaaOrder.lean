/- The law on order: the walk. -/
import Derived.BigQuiet
import Derived.Deep.DeepCutAuto
import Derived.Test.YtgkpdkdkpmkgdaaOrderL
import Derived.Test.YtgkpdkdkpmkgdaaWrapA
import Derived.Test.YtgkpdkdkpmkgdaaAwake
import Derived.Test.YtgkpdkdkpmkgdaaSets
namespace Go.Proofs.Ytgkpdkdkpmkgdaa
open Go.RowKit
theorem IntsAt.shape3 {w : World} {v : Value} {l : List Int} (h : IntsAt w v l) : ∃ (ao : Option Addr) (n c : Nat), v = .slice ao n c := by
  obtain ⟨ao, c, h⟩ := h.shape
  exact ⟨ao, _, c, h⟩
set_option maxRecDepth 100000 in
set_option maxHeartbeats 4000000 in
theorem order_any (a b c d e f : Value) (la lb lc ld le lf : List Int) (w : World) (ha : IntsAt w a la) (hb : IntsAt w b lb) (hc : IntsAt w c lc) (hd : IntsAt w d ld) (he : IntsAt w e le) (hf : IntsAt w f lf)
    (na : la.length ≤ 17592186043904) (nb : lb.length ≤ 17592186043904) (nc : lc.length ≤ 17592186043904) (nd : ld.length ≤ 17592186043904) (ne : le.length ≤ 17592186043904) (nf : lf.length ≤ 17592186043904) :
    Calls Try.prog 5 #[.agg #[a, b], .agg #[c, d], .agg #[e, f]] w fun e w' => e = .returned (.bool true) ∧ Below w.heap.size w w' := by
  obtain ⟨aoa, ma, ca, rfl⟩ := ha.shape3
  obtain ⟨aob, mb, cb, rfl⟩ := hb.shape3
  obtain ⟨aoc, mc, cc, rfl⟩ := hc.shape3
  obtain ⟨aod, md, cd, rfl⟩ := hd.shape3
  obtain ⟨aoe, me, ce, rfl⟩ := he.shape3
  obtain ⟨aof, mf, cf, rfl⟩ := hf.shape3
  obtain ⟨W, hW, hbel, hWs, hcell⟩ := box3 w (.slice aoa ma ca) (.slice aob mb cb) (.slice aoc mc cc) (.slice aod md cd) (.slice aoe me ce) (.slice aof mf cf) 26 26 26
  have hI : ∀ W', Below W.heap.size W W' → IntsAt W' (.slice aoa ma ca) la ∧ IntsAt W' (.slice aob mb cb) lb ∧ IntsAt W' (.slice aoc mc cc) lc ∧ IntsAt W' (.slice aod md cd) ld ∧ IntsAt W' (.slice aoe me ce) le ∧ IntsAt W' (.slice aof mf cf) lf := fun W' h =>
    have k := hbel.trans (h.mono hbel.size)
    ⟨ha.below k (Nat.le_refl _), hb.below k (Nat.le_refl _), hc.below k (Nat.le_refl _), hd.below k (Nat.le_refl _), he.below k (Nat.le_refl _), hf.below k (Nat.le_refl _)⟩
  have c1 := fun W' h => may_any _ _ la lb W' (hI W' h).1 (hI W' h).2.1 na nb
  have c2 := fun W' h => may_any _ _ lc ld W' (hI W' h).2.2.1 (hI W' h).2.2.2.1 nc nd
  have c3 := fun W' h => may_any _ _ le lf W' (hI W' h).2.2.2.2.1 (hI W' h).2.2.2.2.2 ne nf
  obtain ⟨m1, hm1⟩ : ∃ s, s = (setL la && setL lb) := ⟨_, rfl⟩
  obtain ⟨m2, hm2⟩ : ∃ s, s = (setL lc && setL ld) := ⟨_, rfl⟩
  obtain ⟨m3, hm3⟩ : ∃ s, s = (setL le && setL lf) := ⟨_, rfl⟩
  rw [← hm1] at c1
  rw [← hm2] at c2
  rw [← hm3] at c3
  subst hW
  have C1 := Lib.hid c1
  have C2 := Lib.hid c2
  have C3 := Lib.hid c3
  have HC := Lib.hid hcell
  have HB := Lib.hid hbel
  have HI := Lib.hid hI
  have HW := Lib.hid hWs
  have HM : Hid (m1 = (setL la && setL lb) ∧ m2 = (setL lc && setL ld) ∧ m3 = (setL le && setL lf)) := ⟨hm1, hm2, hm3⟩
  have HN : Hid (la.length ≤ 17592186043904 ∧ lb.length ≤ 17592186043904 ∧ lc.length ≤ 17592186043904 ∧ ld.length ≤ 17592186043904 ∧ le.length ≤ 17592186043904 ∧ lf.length ≤ 17592186043904) := ⟨na, nb, nc, nd, ne, nf⟩
  obtain ⟨G0⟩ : Nonempty Nat := ⟨0⟩
  clear hcell hI hWs hbel c1 c2 c3 ha hb hc hd he hf na nb nc nd ne nf hm1 hm2 hm3
  by_cases hall : (m1 && m2 && m3) = true
  · obtain ⟨⟨rfl, rfl⟩, rfl⟩ : (m1 = true ∧ m2 = true) ∧ m3 = true := by simpa using hall
    clear hall
    go_enter Try.func5, Try.ntmps5
    go_upto_region 3 with (first
      | (go_at_call 10; have G1 := G0; clear G0; refine (C1.out _ (Below.refl _ _)).mono ?_; rintro e w1 ⟨rfl, b1⟩; have j1 := b1; obtain ⟨d1_0, d1_1, d1_2, d1_3, d1_4, d1_5⟩ := HC.out w1 j1)
      | (go_at_call 10; have G2 := G1; clear G1; refine (C2.out w1 j1).mono ?_; rintro e w2 ⟨rfl, b2⟩; have j2 := j1.trans (b2.mono j1.size); obtain ⟨d2_0, d2_1, d2_2, d2_3, d2_4, d2_5⟩ := HC.out w2 j2)
      | (go_at_call 10; have G3 := G2; clear G2; refine (C3.out w2 j2).mono ?_; rintro e w3 ⟨rfl, b3⟩; have j3 := j2.trans (b3.mono j2.size)))
    have B3 : Below w.heap.size w w3 := HB.out.trans (j3.mono HB.out.size)
    have S3 : Hid (∀ W', Below w3.heap.size w3 W' → _) := Lib.hid fun W' h => HC.out W' (j3.trans (h.mono j3.size))
    have I3 : Hid (∀ W', Below w3.heap.size w3 W' → _) := Lib.hid fun W' h => HI.out W' (j3.trans (h.mono j3.size))
    clear C1 C2 C3 HC HB HI HW j3 b3 j2 b2 d1_0 d1_1 d1_2 d1_3 d1_4 d1_5 d2_0 d2_1 d2_2 d2_3 d2_4 d2_5 j1 b1
    obtain ⟨p1, hp1⟩ : ∃ s, s = flowL la lb lc ld := ⟨_, rfl⟩
    obtain ⟨p2, hp2⟩ : ∃ s, s = flowL lc ld le lf := ⟨_, rfl⟩
    obtain ⟨p3, hp3⟩ : ∃ s, s = flowL la lb le lf := ⟨_, rfl⟩
    obtain ⟨p4, hp4⟩ : ∃ s, s = flowL lc ld la lb := ⟨_, rfl⟩
    have HP : Hid (p1 = flowL la lb lc ld ∧ p2 = flowL lc ld le lf ∧ p3 = flowL la lb le lf ∧ p4 = flowL lc ld la lb) := ⟨hp1, hp2, hp3, hp4⟩
    have ht : p1 = true → p2 = true → p3 = true := by rw [hp1, hp2, hp3]; exact flow_trans
    have Faa : ∀ W', Below w3.heap.size w3 W' → Calls Try.prog 22 #[.agg #[.slice aoa ma ca, .slice aob mb cb], .agg #[.slice aoa ma ca, .slice aob mb cb]] W' fun e w' => e = .returned (.bool true) ∧ Below W'.heap.size W' w' := fun W' h => by
      have := flows_any _ _ _ _ la lb la lb W' (I3.out W' h).1 (I3.out W' h).2.1 (I3.out W' h).1 (I3.out W' h).2.1 HN.out.1 HN.out.2.1 HN.out.1 HN.out.2.1
      rw [show (subL la la && subL lb lb) = true from flow_refl la lb] at this
      exact this
    have Fab : ∀ W', Below w3.heap.size w3 W' → Calls Try.prog 22 #[.agg #[.slice aoa ma ca, .slice aob mb cb], .agg #[.slice aoc mc cc, .slice aod md cd]] W' fun e w' => e = .returned (.bool p1) ∧ Below W'.heap.size W' w' := fun W' h => by
      rw [hp1]
      exact flows_any _ _ _ _ la lb lc ld W' (I3.out W' h).1 (I3.out W' h).2.1 (I3.out W' h).2.2.1 (I3.out W' h).2.2.2.1 HN.out.1 HN.out.2.1 HN.out.2.2.1 HN.out.2.2.2.1
    have Fbc : ∀ W', Below w3.heap.size w3 W' → Calls Try.prog 22 #[.agg #[.slice aoc mc cc, .slice aod md cd], .agg #[.slice aoe me ce, .slice aof mf cf]] W' fun e w' => e = .returned (.bool p2) ∧ Below W'.heap.size W' w' := fun W' h => by
      rw [hp2]
      exact flows_any _ _ _ _ lc ld le lf W' (I3.out W' h).2.2.1 (I3.out W' h).2.2.2.1 (I3.out W' h).2.2.2.2.1 (I3.out W' h).2.2.2.2.2 HN.out.2.2.1 HN.out.2.2.2.1 HN.out.2.2.2.2.1 HN.out.2.2.2.2.2
    have Fac : ∀ W', Below w3.heap.size w3 W' → Calls Try.prog 22 #[.agg #[.slice aoa ma ca, .slice aob mb cb], .agg #[.slice aoe me ce, .slice aof mf cf]] W' fun e w' => e = .returned (.bool p3) ∧ Below W'.heap.size W' w' := fun W' h => by
      rw [hp3]
      exact flows_any _ _ _ _ la lb le lf W' (I3.out W' h).1 (I3.out W' h).2.1 (I3.out W' h).2.2.2.2.1 (I3.out W' h).2.2.2.2.2 HN.out.1 HN.out.2.1 HN.out.2.2.2.2.1 HN.out.2.2.2.2.2
    have Fba : ∀ W', Below w3.heap.size w3 W' → Calls Try.prog 22 #[.agg #[.slice aoc mc cc, .slice aod md cd], .agg #[.slice aoa ma ca, .slice aob mb cb]] W' fun e w' => e = .returned (.bool p4) ∧ Below W'.heap.size W' w' := fun W' h => by
      rw [hp4]
      exact flows_any _ _ _ _ lc ld la lb W' (I3.out W' h).2.2.1 (I3.out W' h).2.2.2.1 (I3.out W' h).1 (I3.out W' h).2.1 HN.out.2.2.1 HN.out.2.2.2.1 HN.out.1 HN.out.2.1
    have Fsm : ∀ W', Below w3.heap.size w3 W' → Calls Try.prog 23 #[.agg #[.slice aoa ma ca, .slice aob mb cb], .agg #[.slice aoc mc cc, .slice aod md cd]] W' fun e w' => e = .returned (.bool (p1 && p4)) ∧ Below W'.heap.size W' w' := fun W' h => by
      rw [hp1, hp4, ← flow_same]
      exact lsame_any _ _ _ _ la lb lc ld W' (I3.out W' h).1 (I3.out W' h).2.1 (I3.out W' h).2.2.1 (I3.out W' h).2.2.2.1 HN.out.1 HN.out.2.1 HN.out.2.2.1 HN.out.2.2.2.1
    have HFaa := Lib.hid Faa
    have HFab := Lib.hid Fab
    have HFbc := Lib.hid Fbc
    have HFac := Lib.hid Fac
    have HFba := Lib.hid Fba
    have HFsm := Lib.hid Fsm
    have HT := Lib.hid ht
    clear Faa Fab Fbc Fac Fba Fsm ht hp1 hp2 hp3 hp4
    go_cut [57] (fun s57 wx => s57 = .bool false ∧ Below w3.heap.size w3 wx)
    case first =>
      have l0 : ∀ i : Lat w3, i.w.cell? ⟨w.heap.size, 0, none⟩ = some (.slice aoa ma ca) := fun i => (S3.out i.w i.h).1
      have l1 : ∀ i : Lat w3, i.w.cell? ⟨w.heap.size, 1, none⟩ = some (.slice aob mb cb) := fun i => (S3.out i.w i.h).2.1
      have l2 : ∀ i : Lat w3, i.w.cell? ⟨w.heap.size + 1, 0, none⟩ = some (.slice aoc mc cc) := fun i => (S3.out i.w i.h).2.2.1
      have l3 : ∀ i : Lat w3, i.w.cell? ⟨w.heap.size + 1, 1, none⟩ = some (.slice aod md cd) := fun i => (S3.out i.w i.h).2.2.2.1
      have l4 : ∀ i : Lat w3, i.w.cell? ⟨w.heap.size + 1 + 1, 0, none⟩ = some (.slice aoe me ce) := fun i => (S3.out i.w i.h).2.2.2.2.1
      have l5 : ∀ i : Lat w3, i.w.cell? ⟨w.heap.size + 1 + 1, 1, none⟩ = some (.slice aof mf cf) := fun i => (S3.out i.w i.h).2.2.2.2.2
      have hc : p1 = false ∨ (p1 = true ∧ p2 = false) ∨ (p1 = true ∧ p2 = true) := by cases p1 <;> cases p2 <;> simp
      rcases hc with rfl | ⟨rfl, rfl⟩ | ⟨rfl, rfl⟩
      · clear HT
        refine wp_region_lat (W := w3) (by kernel_rfl) (by kernel_rfl) (Below.refl _ _) ?_
        iterate 34 (go_big_quiet_step ((first | (with_reducible exact Lat.call (HFaa.out _ (Lat.h _))) | (with_reducible exact Lat.call (HFab.out _ (Lat.h _))) | (with_reducible exact Lat.call (HFbc.out _ (Lat.h _))) | (with_reducible exact Lat.call (HFac.out _ (Lat.h _))) | (with_reducible exact Lat.call (HFba.out _ (Lat.h _))) | (with_reducible exact Lat.call (HFsm.out _ (Lat.h _))))))
        refine wpQuiet_nil ?_
        rintro _ ⟨i, rfl⟩
        go_wp2_with (fail)
        go_meet
        exact ⟨rfl, i.h⟩
      · clear HT
        rcases p4 with _ | _
        all_goals
          refine wp_region_lat (W := w3) (by kernel_rfl) (by kernel_rfl) (Below.refl _ _) ?_
          iterate 34 (go_big_quiet_step ((first | (with_reducible exact Lat.call (HFaa.out _ (Lat.h _))) | (with_reducible exact Lat.call (HFab.out _ (Lat.h _))) | (with_reducible exact Lat.call (HFbc.out _ (Lat.h _))) | (with_reducible exact Lat.call (HFac.out _ (Lat.h _))) | (with_reducible exact Lat.call (HFba.out _ (Lat.h _))) | (with_reducible exact Lat.call (HFsm.out _ (Lat.h _))))))
          refine wpQuiet_nil ?_
          rintro _ ⟨i, rfl⟩
          go_wp2_with (fail)
          go_meet
          exact ⟨rfl, i.h⟩
      · obtain rfl : p3 = true := HT.out rfl rfl
        clear HT
        rcases p4 with _ | _
        all_goals
          refine wp_region_lat (W := w3) (by kernel_rfl) (by kernel_rfl) (Below.refl _ _) ?_
          iterate 34 (go_big_quiet_step ((first | (with_reducible exact Lat.call (HFaa.out _ (Lat.h _))) | (with_reducible exact Lat.call (HFab.out _ (Lat.h _))) | (with_reducible exact Lat.call (HFbc.out _ (Lat.h _))) | (with_reducible exact Lat.call (HFac.out _ (Lat.h _))) | (with_reducible exact Lat.call (HFba.out _ (Lat.h _))) | (with_reducible exact Lat.call (HFsm.out _ (Lat.h _))))))
          refine wpQuiet_nil ?_
          rintro _ ⟨i, rfl⟩
          go_wp2_with (fail)
          go_meet
          exact ⟨rfl, i.h⟩
    case rest =>
      obtain ⟨rfl, hb⟩ := hcut
      have cj : ∀ W', Below w3.heap.size w3 W' → Calls Try.prog 15 #[.slice aoa ma ca, .slice aoc mc cc] W' fun e w' => ∃ v', e = .returned (.tuple #[v', .bool (joinOk la lc)]) ∧ IntsAt w' v' (joinL la lc) ∧ Below W'.heap.size W' w' := fun W' h => join_any _ _ la lc W' (I3.out W' h).1 (I3.out W' h).2.2.1 HN.out.1 HN.out.2.2.1
      have cm : ∀ W', Below w3.heap.size w3 W' → Calls Try.prog 18 #[.slice aob mb cb, .slice aod md cd] W' fun e w' => ∃ v', e = .returned v' ∧ IntsAt w' v' (meetL lb ld) ∧ Below W'.heap.size W' w' := fun W' h => meet_any _ _ lb ld W' (I3.out W' h).2.1 (I3.out W' h).2.2.2.1 HN.out.2.1 HN.out.2.2.2.1
      have HL : Hid (joinOk la lc = true → flowL la lb (joinL la lc) (meetL lb ld) = true ∧ flowL lc ld (joinL la lc) (meetL lb ld) = true ∧ (p3 = true → p2 = true → flowL (joinL la lc) (meetL lb ld) le lf = true)) := by
        intro hok
        have h1 : setL lb = true := by have := HM.out.1; simp at this; exact this.2
        have h2 : setL ld = true := by have := HM.out.2.1; simp at this; exact this.2
        obtain ⟨k1, k2⟩ := flow_join hok h1 h2
        exact ⟨k1, k2, fun e3 e2 => join_flow hok h1 h2 (HP.out.2.2.1 ▸ e3) (HP.out.2.1 ▸ e2)⟩
      have hq : (joinL la lc).length ≤ 17592186043904 ∧ (meetL lb ld).length ≤ 17592186043904 := ⟨Nat.le_trans (joinL_few _ _) (by decide), Nat.le_trans (meetL_few _ _) (by decide)⟩
      obtain ⟨ok, hok⟩ : ∃ s, s = joinOk la lc := ⟨_, rfl⟩
      rw [← hok] at HL
      simp only [← hok] at cj
      have Cj := Lib.hid cj
      have Cm := Lib.hid cm
      have d0 := S3.out wc hb
      obtain ⟨e0, e1, e2, e3, e4, e5⟩ := d0
      clear cj cm hok
      go_upto_region 7 with (first
        | (go_at_call 15; refine (Cj.out wc hb).mono ?_; rintro e w4 ⟨v4, rfl, i4, b4⟩; have j4 := hb.trans (b4.mono hb.size); obtain ⟨f0, f1, f2, f3, f4, f5⟩ := S3.out w4 j4; obtain ⟨ao4, m4, c4, rfl⟩ := i4.shape3)
        | (go_at_call 18; refine (Cm.out w4 j4).mono ?_; rintro e w5 ⟨v5, rfl, i5, b5⟩; have j5 := j4.trans (b5.mono j4.size); have i45 := i4.below b5 (Nat.le_refl _); obtain ⟨ao5, m5, c5, rfl⟩ := i5.shape3))
      obtain ⟨W6, hW6, b6, s6, hc6⟩ := box1 w5 (.slice ao4 m4 c4) (.slice ao5 m5 c5) 26
      rw [← hW6]
      have j6 := j5.trans (b6.mono j5.size)
      have q6 : Below W6.heap.size W6 W6 := Below.refl _ _
      have hiJ : ∀ W', Below W6.heap.size W6 W' → IntsAt W' (.slice ao4 m4 c4) (joinL la lc) ∧ IntsAt W' (.slice ao5 m5 c5) (meetL lb ld) := fun W' h => have k := b6.trans (h.mono b6.size); ⟨i45.below k (Nat.le_refl _), i5.below k (Nat.le_refl _)⟩
      have j36 : ∀ W', Below W6.heap.size W6 W' → Below w3.heap.size w3 W' := fun W' h => j6.trans (h.mono j6.size)
      have HC6 := Lib.hid hc6
      have K1 : Hid (ok = true → ∀ W', Below W6.heap.size W6 W' → Calls Try.prog 22 #[.agg #[.slice aoa ma ca, .slice aob mb cb], .agg #[.slice ao4 m4 c4, .slice ao5 m5 c5]] W' fun e w' => e = .returned (.bool true) ∧ Below W'.heap.size W' w') := Lib.hid fun hk W' h => by
        have := flows_any _ _ _ _ la lb _ _ W' (I3.out W' (j36 W' h)).1 (I3.out W' (j36 W' h)).2.1 (hiJ W' h).1 (hiJ W' h).2 HN.out.1 HN.out.2.1 hq.1 hq.2
        rw [show (subL la (joinL la lc) && subL (meetL lb ld) lb) = true from (HL.out hk).1] at this
        exact this
      have K2 : Hid (ok = true → ∀ W', Below W6.heap.size W6 W' → Calls Try.prog 22 #[.agg #[.slice aoc mc cc, .slice aod md cd], .agg #[.slice ao4 m4 c4, .slice ao5 m5 c5]] W' fun e w' => e = .returned (.bool true) ∧ Below W'.heap.size W' w') := Lib.hid fun hk W' h => by
        have := flows_any _ _ _ _ lc ld _ _ W' (I3.out W' (j36 W' h)).2.2.1 (I3.out W' (j36 W' h)).2.2.2.1 (hiJ W' h).1 (hiJ W' h).2 HN.out.2.2.1 HN.out.2.2.2.1 hq.1 hq.2
        rw [show (subL lc (joinL la lc) && subL (meetL lb ld) ld) = true from (HL.out hk).2.1] at this
        exact this
      have K5 : Hid (ok = true → p3 = true → p2 = true → ∀ W', Below W6.heap.size W6 W' → Calls Try.prog 22 #[.agg #[.slice ao4 m4 c4, .slice ao5 m5 c5], .agg #[.slice aoe me ce, .slice aof mf cf]] W' fun e w' => e = .returned (.bool true) ∧ Below W'.heap.size W' w') := Lib.hid fun hk h3 h2 W' h => by
        have := flows_any _ _ _ _ _ _ le lf W' (hiJ W' h).1 (hiJ W' h).2 (I3.out W' (j36 W' h)).2.2.2.2.1 (I3.out W' (j36 W' h)).2.2.2.2.2 hq.1 hq.2 HN.out.2.2.2.2.1 HN.out.2.2.2.2.2
        rw [show (subL (joinL la lc) le && subL lf (meetL lb ld)) = true from (HL.out hk).2.2 h3 h2] at this
        exact this
      obtain ⟨g6_0, g6_1, g6_2, g6_3, g6_4, g6_5⟩ := S3.out W6 j6
      obtain ⟨x6_0, x6_1⟩ := HC6.out W6 q6
      clear hc6 hiJ hq hW6 b6 i45 i5 i4 j4 j5 b4 b5 f0 f1 f2 f3 f4 f5 e0 e1 e2 e3 e4 e5 j36 HT
      have hcs : ok = false ∨ (ok = true ∧ p3 = false) ∨ (ok = true ∧ p3 = true ∧ p2 = false) ∨ (ok = true ∧ p3 = true ∧ p2 = true) := by cases ok <;> cases p3 <;> cases p2 <;> simp
      rcases hcs with rfl | ⟨rfl, rfl⟩ | ⟨rfl, rfl, rfl⟩ | ⟨rfl, rfl, rfl⟩
      · go_wp2_with (go_at_call 11; refine (awake3_any W6).mono ?_; rintro e w20 ⟨rfl, b20⟩; have j20 := j6.trans (b20.mono j6.size))
        go_ret
        exact ⟨rfl, B3.trans (j20.mono B3.size)⟩
      all_goals
        have K1' := K1.out rfl
        have K2' := K2.out rfl
        clear K1 K2
        have K1 := Lib.hid K1'
        have K2 := Lib.hid K2'
        clear K1' K2'
      · go_wp2_with (first
        | (go_at_call 22; have G4 := G3; clear G3; refine (K1.out _ q6).mono ?_; rintro e w7 ⟨rfl, b7⟩; have j7 := j6.trans (b7.mono j6.size); have q7 := q6.trans (b7.mono q6.size); obtain ⟨g7_0, g7_1, g7_2, g7_3, g7_4, g7_5⟩ := S3.out w7 j7; obtain ⟨x7_0, x7_1⟩ := HC6.out w7 q7)
        | (go_at_call 22; have G5 := G4; clear G4; refine (K2.out w7 q7).mono ?_; rintro e w8 ⟨rfl, b8⟩; have j8 := j7.trans (b8.mono j7.size); have q8 := q7.trans (b8.mono q7.size); obtain ⟨g8_0, g8_1, g8_2, g8_3, g8_4, g8_5⟩ := S3.out w8 j8; obtain ⟨x8_0, x8_1⟩ := HC6.out w8 q8)
        | (go_at_call 22; have G6 := G5; clear G5; refine (HFac.out w8 j8).mono ?_; rintro e w9 ⟨rfl, b9⟩; have j9 := j8.trans (b9.mono j8.size); have q9 := q8.trans (b9.mono q8.size); obtain ⟨g9_0, g9_1, g9_2, g9_3, g9_4, g9_5⟩ := S3.out w9 j9; obtain ⟨x9_0, x9_1⟩ := HC6.out w9 q9)
        | (go_at_call 22; have G7 := G6; clear G6; refine (HFbc.out w9 j9).mono ?_; rintro e w10 ⟨rfl, b10⟩; have j10 := j9.trans (b10.mono j9.size); have q10 := q9.trans (b10.mono q9.size); obtain ⟨g10_0, g10_1, g10_2, g10_3, g10_4, g10_5⟩ := S3.out w10 j10; obtain ⟨x10_0, x10_1⟩ := HC6.out w10 q10)
        | (go_at_call 22; have G8 := G7; clear G7; refine (K5.out w10 q10).mono ?_; rintro e w11 ⟨rfl, b11⟩; have j11 := j10.trans (b11.mono j10.size); have q11 := q10.trans (b11.mono q10.size); obtain ⟨g11_0, g11_1, g11_2, g11_3, g11_4, g11_5⟩ := S3.out w11 j11; obtain ⟨x11_0, x11_1⟩ := HC6.out w11 q11)
        | (go_at_call 11; refine (awake3_any w11).mono ?_; rintro e w20 ⟨rfl, b20⟩; have j20 := j11.trans (b20.mono j11.size))
        | (go_at_call 11; refine (awake3_any w10).mono ?_; rintro e w20 ⟨rfl, b20⟩; have j20 := j10.trans (b20.mono j10.size))
        | (go_at_call 11; refine (awake3_any w9).mono ?_; rintro e w20 ⟨rfl, b20⟩; have j20 := j9.trans (b20.mono j9.size)))
        go_ret
        exact ⟨rfl, B3.trans (j20.mono B3.size)⟩
      · go_wp2_with (first
        | (go_at_call 22; have G4 := G3; clear G3; refine (K1.out _ q6).mono ?_; rintro e w7 ⟨rfl, b7⟩; have j7 := j6.trans (b7.mono j6.size); have q7 := q6.trans (b7.mono q6.size); obtain ⟨g7_0, g7_1, g7_2, g7_3, g7_4, g7_5⟩ := S3.out w7 j7; obtain ⟨x7_0, x7_1⟩ := HC6.out w7 q7)
        | (go_at_call 22; have G5 := G4; clear G4; refine (K2.out w7 q7).mono ?_; rintro e w8 ⟨rfl, b8⟩; have j8 := j7.trans (b8.mono j7.size); have q8 := q7.trans (b8.mono q7.size); obtain ⟨g8_0, g8_1, g8_2, g8_3, g8_4, g8_5⟩ := S3.out w8 j8; obtain ⟨x8_0, x8_1⟩ := HC6.out w8 q8)
        | (go_at_call 22; have G6 := G5; clear G5; refine (HFac.out w8 j8).mono ?_; rintro e w9 ⟨rfl, b9⟩; have j9 := j8.trans (b9.mono j8.size); have q9 := q8.trans (b9.mono q8.size); obtain ⟨g9_0, g9_1, g9_2, g9_3, g9_4, g9_5⟩ := S3.out w9 j9; obtain ⟨x9_0, x9_1⟩ := HC6.out w9 q9)
        | (go_at_call 22; have G7 := G6; clear G6; refine (HFbc.out w9 j9).mono ?_; rintro e w10 ⟨rfl, b10⟩; have j10 := j9.trans (b10.mono j9.size); have q10 := q9.trans (b10.mono q9.size); obtain ⟨g10_0, g10_1, g10_2, g10_3, g10_4, g10_5⟩ := S3.out w10 j10; obtain ⟨x10_0, x10_1⟩ := HC6.out w10 q10)
        | (go_at_call 22; have G8 := G7; clear G7; refine (K5.out w10 q10).mono ?_; rintro e w11 ⟨rfl, b11⟩; have j11 := j10.trans (b11.mono j10.size); have q11 := q10.trans (b11.mono q10.size); obtain ⟨g11_0, g11_1, g11_2, g11_3, g11_4, g11_5⟩ := S3.out w11 j11; obtain ⟨x11_0, x11_1⟩ := HC6.out w11 q11)
        | (go_at_call 11; refine (awake3_any w11).mono ?_; rintro e w20 ⟨rfl, b20⟩; have j20 := j11.trans (b20.mono j11.size))
        | (go_at_call 11; refine (awake3_any w10).mono ?_; rintro e w20 ⟨rfl, b20⟩; have j20 := j10.trans (b20.mono j10.size))
        | (go_at_call 11; refine (awake3_any w9).mono ?_; rintro e w20 ⟨rfl, b20⟩; have j20 := j9.trans (b20.mono j9.size)))
        go_ret
        exact ⟨rfl, B3.trans (j20.mono B3.size)⟩
      · have K5' := K5.out rfl rfl rfl
        clear K5
        have K5 := Lib.hid K5'
        clear K5'
        go_wp2_with (first
        | (go_at_call 22; have G4 := G3; clear G3; refine (K1.out _ q6).mono ?_; rintro e w7 ⟨rfl, b7⟩; have j7 := j6.trans (b7.mono j6.size); have q7 := q6.trans (b7.mono q6.size); obtain ⟨g7_0, g7_1, g7_2, g7_3, g7_4, g7_5⟩ := S3.out w7 j7; obtain ⟨x7_0, x7_1⟩ := HC6.out w7 q7)
        | (go_at_call 22; have G5 := G4; clear G4; refine (K2.out w7 q7).mono ?_; rintro e w8 ⟨rfl, b8⟩; have j8 := j7.trans (b8.mono j7.size); have q8 := q7.trans (b8.mono q7.size); obtain ⟨g8_0, g8_1, g8_2, g8_3, g8_4, g8_5⟩ := S3.out w8 j8; obtain ⟨x8_0, x8_1⟩ := HC6.out w8 q8)
        | (go_at_call 22; have G6 := G5; clear G5; refine (HFac.out w8 j8).mono ?_; rintro e w9 ⟨rfl, b9⟩; have j9 := j8.trans (b9.mono j8.size); have q9 := q8.trans (b9.mono q8.size); obtain ⟨g9_0, g9_1, g9_2, g9_3, g9_4, g9_5⟩ := S3.out w9 j9; obtain ⟨x9_0, x9_1⟩ := HC6.out w9 q9)
        | (go_at_call 22; have G7 := G6; clear G6; refine (HFbc.out w9 j9).mono ?_; rintro e w10 ⟨rfl, b10⟩; have j10 := j9.trans (b10.mono j9.size); have q10 := q9.trans (b10.mono q9.size); obtain ⟨g10_0, g10_1, g10_2, g10_3, g10_4, g10_5⟩ := S3.out w10 j10; obtain ⟨x10_0, x10_1⟩ := HC6.out w10 q10)
        | (go_at_call 22; have G8 := G7; clear G7; refine (K5.out w10 q10).mono ?_; rintro e w11 ⟨rfl, b11⟩; have j11 := j10.trans (b11.mono j10.size); have q11 := q10.trans (b11.mono q10.size); obtain ⟨g11_0, g11_1, g11_2, g11_3, g11_4, g11_5⟩ := S3.out w11 j11; obtain ⟨x11_0, x11_1⟩ := HC6.out w11 q11)
        | (go_at_call 11; refine (awake3_any w11).mono ?_; rintro e w20 ⟨rfl, b20⟩; have j20 := j11.trans (b20.mono j11.size))
        | (go_at_call 11; refine (awake3_any w10).mono ?_; rintro e w20 ⟨rfl, b20⟩; have j20 := j10.trans (b20.mono j10.size))
        | (go_at_call 11; refine (awake3_any w9).mono ?_; rintro e w20 ⟨rfl, b20⟩; have j20 := j9.trans (b20.mono j9.size)))
        go_ret
        exact ⟨rfl, B3.trans (j20.mono B3.size)⟩
  · have hn : m1 = false ∨ (m1 = true ∧ m2 = false) ∨ (m1 = true ∧ m2 = true ∧ m3 = false) := by
      cases m1 <;> cases m2 <;> cases m3 <;> simp at hall ⊢
    clear hall
    rcases hn with rfl | ⟨rfl, rfl⟩ | ⟨rfl, rfl, rfl⟩
    all_goals
      go_enter Try.func5, Try.ntmps5
      go_wp2_with (first
        | (go_at_call 10; have G1 := G0; clear G0; refine (C1.out _ (Below.refl _ _)).mono ?_; rintro e w1 ⟨rfl, b1⟩; have j1 := b1; obtain ⟨d1_0, d1_1, d1_2, d1_3, d1_4, d1_5⟩ := HC.out w1 j1)
        | (go_at_call 10; have G2 := G1; clear G1; refine (C2.out w1 j1).mono ?_; rintro e w2 ⟨rfl, b2⟩; have j2 := j1.trans (b2.mono j1.size); obtain ⟨d2_0, d2_1, d2_2, d2_3, d2_4, d2_5⟩ := HC.out w2 j2)
        | (go_at_call 10; have G3 := G2; clear G2; refine (C3.out w2 j2).mono ?_; rintro e w3 ⟨rfl, b3⟩; have j3 := j2.trans (b3.mono j2.size))
        | (go_at_call 11; refine (awake3_any w3).mono ?_; rintro e w20 ⟨rfl, b20⟩; have j20 := j3.trans (b20.mono j3.size))
        | (go_at_call 11; refine (awake3_any w2).mono ?_; rintro e w20 ⟨rfl, b20⟩; have j20 := j2.trans (b20.mono j2.size))
        | (go_at_call 11; refine (awake3_any w1).mono ?_; rintro e w20 ⟨rfl, b20⟩; have j20 := j1.trans (b20.mono j1.size)))
      go_ret
      exact ⟨rfl, HB.out.trans (j20.mono HB.out.size)⟩
end Go.Proofs.Ytgkpdkdkpmkgdaa
