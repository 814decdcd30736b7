/- The reference's Join: all of both. The reference's More. lazaretref3.SameSet: whether two lists are one. -/
import Derived.Test.YtmphnoabkmoafaaGreatDoorM44
import Derived.Test.YtmphnoabkmoafaaGreatDoorM7
import Derived.BigQuiet
import Derived.Test.YtmphnoabkmoafaaGreatDoorM8
import Derived.Deep.QuietTactic
import Derived.Test.YtmphnoabkmoafaaGreatDoorM2
namespace Go.Proofs.YtmphnoabkmoafaaGreatDoor
open Go.RowKit
variable {uu0 : Unit} [Base uu0]
theorem below_drawn {B : Nat} {w wr : World} (h : Below B w wr) (m : Nat) : Below B w (wr.drewN m) := ⟨h.os, h.tape, h.output, h.size, h.block⟩
theorem refset_at (v : Value) (l : List Int) (w : World) (h : IntsAt w v l) (hl : l.length ≤ 1000000000000000) (m : Nat) :
    Calls Tryz.prog 90 #[v] (w.drewN m) fun e w' => e = .returned (.bool (setL l)) ∧ ∃ m', w' = w.drewN m' :=
  (refset_any v l _ (h.drewN m) hl).mono fun _ _ ⟨h1, k, h2⟩ => ⟨h1, m + k, by rw [h2, World.drewN_drewN]⟩
set_option maxRecDepth 100000 in
set_option maxHeartbeats 2000000 in
theorem refjoin_any (a b : Value) (la lb : List Int) (w : World) (ha : IntsAt w a la) (hb : IntsAt w b lb) (hla : la.length ≤ 17592186043904) (hlb : lb.length ≤ 17592186043904) :
    Calls Tryz.prog 54 #[a, b] w fun e w' => ∃ v', e = .returned (.tuple #[v', .bool (joinOk la lb)]) ∧ IntsAt w' v' (joinL la lb) ∧ Below w.heap.size w w' := by
  obtain ⟨i0, hi, hz0, hz1, hz2⟩ := info_parts info3
  have h1 := refset_at a la w ha (by omega) 0
  have h2 := refset_at b lb w hb (by omega)
  have hA : ∀ W, Below w.heap.size w W → IntsAt W a la ∧ IntsAt W b lb := fun W h => ⟨ha.below h (Nat.le_refl _), hb.below h (Nat.le_refl _)⟩
  obtain ⟨aoa, ca, hva⟩ := ha.shape
  obtain ⟨aob, cb, hvb⟩ := hb.shape
  subst hva
  subst hvb
  obtain ⟨sa, hsa⟩ : ∃ s, s = setL la := ⟨_, rfl⟩
  obtain ⟨sb, hsb⟩ : ∃ s, s = setL lb := ⟨_, rfl⟩
  obtain ⟨na, hna⟩ : ∃ n, n = la.length := ⟨_, rfl⟩
  obtain ⟨nb, hnb⟩ : ∃ n, n = lb.length := ⟨_, rfl⟩
  have Hj : Hid (joinOk la lb = (sa && sb && setL (normL (la ++ lb))) ∧ joinL la lb = if sa && sb then normV (la ++ lb) else []) := by rw [hsa, hsb]; exact ⟨rfl, rfl⟩
  have H16 : Hid ((sa = true → na ≤ 16) ∧ (sb = true → nb ≤ 16)) := by
    rw [hsa, hsb, hna, hnb]
    refine ⟨fun h => ?_, fun h => ?_⟩ <;> (unfold setL at h; simp only [Bool.and_eq_true, decide_eq_true_eq] at h; exact h.2)
  rw [← hsa] at h1
  simp only [← hsb] at h2
  rw [← hna] at h1 hA hla ⊢
  rw [← hnb] at h2 hA hlb ⊢
  have Ha := Lib.hid hA
  have H1 : Hid (Calls Tryz.prog 90 #[.slice aoa na ca] w fun e w' => e = .returned (.bool sa) ∧ ∃ m', w' = w.drewN m') := h1
  have H2 := Lib.hid h2
  have Hna := Lib.hid hna
  have Hnb := Lib.hid hnb
  have F : True := trivial
  clear hsa hsb ha hb h1 h2 hA hna hnb
  rcases sa with _ | _
  · go_enter Tryz.func54, Tryz.ntmps54
    go_wp2_with (first
      | (go_at_call 90; have G := F; clear F; refine H1.out.mono ?_; rintro e w1 ⟨rfl, m1, rfl⟩)
      | (go_at_call 90; have G2 := G; clear G; refine (H2.out m1).mono ?_; rintro e w1 ⟨rfl, m2, rfl⟩))
    go_ret2
    rw [Hj.out.1, Hj.out.2]
    exact ⟨_, rfl, IntsAt.nil _, below_drawn (Below.refl _ _) _⟩
  rcases sb with _ | _
  · go_enter Tryz.func54, Tryz.ntmps54
    go_wp2_with (first
      | (go_at_call 90; have G := F; clear F; refine H1.out.mono ?_; rintro e w1 ⟨rfl, m1, rfl⟩)
      | (go_at_call 90; have G2 := G; clear G; refine (H2.out m1).mono ?_; rintro e w1 ⟨rfl, m2, rfl⟩))
    go_ret2
    rw [Hj.out.1, Hj.out.2]
    exact ⟨_, rfl, IntsAt.nil _, below_drawn (Below.refl _ _) _⟩
  · go_enter Tryz.func54, Tryz.ntmps54
    go_wp2_with (first
      | (go_at_call 90; have G := F; clear F; refine H1.out.mono ?_; rintro e w1 ⟨rfl, m1, rfl⟩)
      | (go_at_call 90; have G2 := G; clear G; refine (H2.out m1).mono ?_; rintro e w1 ⟨rfl, m2, rfl⟩; have hown0 : ((w.drewN m2).alloc (.cells #[] 3)).ownsRow w.heap.size 3 1 (.slice (some ⟨w.heap.size, 0, none⟩) 0 0) 0 (lits []) := World.ownsRow_made (w.drewN m2) #[] 0 (by simp) (by decide) rfl; have hb0 : Below w.heap.size w ((w.drewN m2).alloc (.cells #[] 3)) := (below_drawn (Below.refl _ _) m2).alloc (Nat.le_refl _) _; have Hown0 := Lib.hid hown0; clear hown0)
      | ((with_reducible show wpList _ _ _ (⟨some 16, _, _, _, _, _⟩ :: _) _ _); go_must (refine wpList_append_ints rfl _ _ 30 rfl w.heap.size 3 i0 (.int .i64 0) und22 hi hz0 hz1 hz2 rfl _ 0 [] la rfl Hown0.out _ rfl (Ha.out _ hb0).1 (by rw [← Hna.out]; have := H16.out.1 (by simp); omega) hb0.size ?_; intro v4 w4 hown4 hg4 hn4; simp only [Act.put, List.setIfInBounds_toArray, List.set_cons_zero, List.set_cons_succ]; have hb4 := hb0.grown hg4 hb0.size (fun q hq => (Hown0.out.lt q hq).1); have Hown4 := Lib.hid hown4; clear hown4 hn4))
      | ((with_reducible show wpList _ _ _ (⟨some 18, _, _, _, _, _⟩ :: _) _ _); go_must (refine wpList_append_ints rfl _ _ 30 rfl w.heap.size 3 i0 (.int .i64 0) und22 hi hz0 hz1 hz2 rfl _ _ _ lb rfl Hown4.out _ rfl (Ha.out _ hb4).2 (by rw [← Hna.out, ← Hnb.out]; have := H16.out.1 (by simp); have := H16.out.2 (by simp); omega) hb4.size ?_; intro v5 w5 hown5 hg5 hn5; simp only [Act.put, List.setIfInBounds_toArray, List.set_cons_zero, List.set_cons_succ]; have hb5 := hb4.grown hg5 hb4.size (fun q hq => (Hown4.out.lt q hq).1); have hat : IntsAt w5 v5 (la ++ lb) := IntsAt.of_owns (l := la ++ lb) hown5; clear hown5 hn5))
      | (go_at_call 91; refine (refnorm_any _ (la ++ lb) _ hat (by rw [List.length_append, ← Hna.out, ← Hnb.out]; have := H16.out.1 (by simp); have := H16.out.2 (by simp); omega)).mono ?_; rintro e w3 ⟨v3, rfl, h3, hb3⟩))
    go_ret2
    rw [Hj.out.1, Hj.out.2]
    exact ⟨_, rfl, h3, hb5.trans (hb3.mono hb5.size)⟩
end Go.Proofs.YtmphnoabkmoafaaGreatDoor
namespace Go.Proofs.YtmphnoabkmoafaaGreatDoor
open Go.RowKit
set_option linter.unusedVariables false
variable {uu0 : Unit} [Base uu0]
set_option maxRecDepth 100000 in
set_option maxHeartbeats 2000000 in
theorem refmore_any (a b c d : Value) (la lb lc ld : List Int) (w : World) (ha : IntsAt w a la) (hb : IntsAt w b lb) (hc : IntsAt w c lc) (hd : IntsAt w d ld)
    (na : la.length ≤ 17592186043904) (nb : lb.length ≤ 17592186043904) (nc : lc.length ≤ 17592186043904) (nd : ld.length ≤ 17592186043904) :
    Calls Tryz.prog 20 #[.agg #[a, b], .agg #[c, d]] w fun e w' => ∃ x y, e = .returned (.tuple #[.agg #[x, y], .bool (joinOk la lc && joinOk lb ld)]) ∧ IntsAt w' x (onlyIf (joinOk la lc && joinOk lb ld) (joinL la lc)) ∧ IntsAt w' y (onlyIf (joinOk la lc && joinOk lb ld) (joinL lb ld)) ∧ Below w.heap.size w w' := by
  obtain ⟨aoa, ma, ca, hva⟩ := ha.shape3
  obtain ⟨aob, mb, cb, hvb⟩ := hb.shape3
  obtain ⟨aoc, mc, cc, hvc⟩ := hc.shape3
  obtain ⟨aod, md, cd, hvd⟩ := hd.shape3
  subst hva hvb hvc hvd
  obtain ⟨W, hW, hbel, hWs, hcell⟩ := box3 w (.slice aoa ma ca) (.slice aob mb cb) (.slice aoc mc cc) (.slice aod md cd) (.slice none 0 0) (.slice none 0 0) 34 34 34
  have hI : ∀ W', Below W.heap.size W W' → IntsAt W' (.slice aoa ma ca) la ∧ IntsAt W' (.slice aob mb cb) lb ∧ IntsAt W' (.slice aoc mc cc) lc ∧ IntsAt W' (.slice aod md cd) ld := fun W' h =>
    have k := hbel.trans (h.mono hbel.size)
    ⟨ha.below k (Nat.le_refl _), hb.below k (Nat.le_refl _), hc.below k (Nat.le_refl _), hd.below k (Nat.le_refl _)⟩
  have c1 := fun W' h => refjoin_any _ _ la lc W' (hI W' h).1 (hI W' h).2.2.1 na nc
  have c2 := fun W' h => refjoin_any _ _ lb ld W' (hI W' h).2.1 (hI W' h).2.2.2 nb nd
  obtain ⟨p, hp⟩ : ∃ s, s = joinOk la lc := ⟨_, rfl⟩
  obtain ⟨q, hq⟩ : ∃ s, s = joinOk lb ld := ⟨_, rfl⟩
  rw [← hp] at c1 ⊢
  rw [← hq] at c2 ⊢
  generalize joinL la lc = l1 at c1 ⊢
  generalize joinL lb ld = l2 at c2 ⊢
  have hb3 : ∀ W', Below W.heap.size W W' → W'.heap[w.heap.size + 1 + 1]? = some (.cells #[.slice none 0 0, .slice none 0 0] 34 (0, 0)) := fun W' h => by have := box_last hW h; simpa using this
  have HB3 := Lib.hid hb3
  subst hW
  have C1 := Lib.hid c1
  have C2 := Lib.hid c2
  have HC := Lib.hid hcell
  have HB := Lib.hid hbel
  have HW := Lib.hid hWs
  obtain ⟨G0⟩ : Nonempty Nat := ⟨0⟩
  clear hb3 c1 c2 hcell hbel hI hp hq ha hb hc hd hWs
  have hcs : p = false ∨ (p = true ∧ q = false) ∨ (p = true ∧ q = true) := by cases p <;> cases q <;> simp
  rcases hcs with rfl | ⟨rfl, rfl⟩ | ⟨rfl, rfl⟩
  · go_enter Tryz.func20, Tryz.ntmps20
    go_wp2_with (first
      | (go_at_call 54; have G1 := G0; clear G0; refine (C1.out _ (Below.refl _ _)).mono ?_; rintro e w1 ⟨v1, rfl, i1, b1⟩; have j1 := b1; obtain ⟨d1_0, d1_1, d1_2, d1_3, d1_4, d1_5⟩ := HC.out w1 j1; obtain ⟨ao1, m1, c1, rfl⟩ := i1.shape3)
      | (go_at_call 54; have G2 := G1; clear G1; refine (C2.out w1 j1).mono ?_; rintro e w2 ⟨v2, rfl, i2, b2⟩; have j2 := j1.trans (b2.mono j1.size); obtain ⟨d2_0, d2_1, d2_2, d2_3, d2_4, d2_5⟩ := HC.out w2 j2; obtain ⟨ao2, m2, c2, rfl⟩ := i2.shape3; have i12 := i1.below b2 (Nat.le_refl _); obtain ⟨_, _, hfr0, hfr1⟩ := pair_cells (HB3.out w2 j2)))
    have jj := HB.out.trans (j2.mono HB.out.size)
    have P := pair_stored (x := .slice none 0 0) (y := .slice none 0 0) (HB3.out w2 j2) rfl rfl rfl
    obtain ⟨r0, r1, _, _⟩ := pair_cells P.block
    exact bodyPost_ret (v := .tuple #[.agg #[.slice none 0 0, .slice none 0 0], .bool false]) (by simp [results, Tryz.results20, go_sem, r0, r1]) rfl ⟨.slice none 0 0, .slice none 0 0, by simp, by simpa [onlyIf] using IntsAt.nil _, by simpa [onlyIf] using IntsAt.nil _, P.below _ _ jj (by omega)⟩
  · go_enter Tryz.func20, Tryz.ntmps20
    go_wp2_with (first
      | (go_at_call 54; have G1 := G0; clear G0; refine (C1.out _ (Below.refl _ _)).mono ?_; rintro e w1 ⟨v1, rfl, i1, b1⟩; have j1 := b1; obtain ⟨d1_0, d1_1, d1_2, d1_3, d1_4, d1_5⟩ := HC.out w1 j1; obtain ⟨ao1, m1, c1, rfl⟩ := i1.shape3)
      | (go_at_call 54; have G2 := G1; clear G1; refine (C2.out w1 j1).mono ?_; rintro e w2 ⟨v2, rfl, i2, b2⟩; have j2 := j1.trans (b2.mono j1.size); obtain ⟨d2_0, d2_1, d2_2, d2_3, d2_4, d2_5⟩ := HC.out w2 j2; obtain ⟨ao2, m2, c2, rfl⟩ := i2.shape3; have i12 := i1.below b2 (Nat.le_refl _); obtain ⟨_, _, hfr0, hfr1⟩ := pair_cells (HB3.out w2 j2)))
    have jj := HB.out.trans (j2.mono HB.out.size)
    have P := pair_stored (x := .slice none 0 0) (y := .slice none 0 0) (HB3.out w2 j2) rfl rfl rfl
    obtain ⟨r0, r1, _, _⟩ := pair_cells P.block
    exact bodyPost_ret (v := .tuple #[.agg #[.slice none 0 0, .slice none 0 0], .bool false]) (by simp [results, Tryz.results20, go_sem, r0, r1]) rfl ⟨.slice none 0 0, .slice none 0 0, by simp, by simpa [onlyIf] using IntsAt.nil _, by simpa [onlyIf] using IntsAt.nil _, P.below _ _ jj (by omega)⟩
  · go_enter Tryz.func20, Tryz.ntmps20
    go_wp2_with (first
      | (go_at_call 54; have G1 := G0; clear G0; refine (C1.out _ (Below.refl _ _)).mono ?_; rintro e w1 ⟨v1, rfl, i1, b1⟩; have j1 := b1; obtain ⟨d1_0, d1_1, d1_2, d1_3, d1_4, d1_5⟩ := HC.out w1 j1; obtain ⟨ao1, m1, c1, rfl⟩ := i1.shape3)
      | (go_at_call 54; have G2 := G1; clear G1; refine (C2.out w1 j1).mono ?_; rintro e w2 ⟨v2, rfl, i2, b2⟩; have j2 := j1.trans (b2.mono j1.size); obtain ⟨d2_0, d2_1, d2_2, d2_3, d2_4, d2_5⟩ := HC.out w2 j2; obtain ⟨ao2, m2, c2, rfl⟩ := i2.shape3; have i12 := i1.below b2 (Nat.le_refl _); obtain ⟨_, _, hfr0, hfr1⟩ := pair_cells (HB3.out w2 j2)))
    have jj := HB.out.trans (j2.mono HB.out.size)
    have P := pair_stored (x := .slice ao1 m1 c1) (y := .slice ao2 m2 c2) (HB3.out w2 j2) rfl rfl rfl
    obtain ⟨r0, r1, _, _⟩ := pair_cells P.block
    exact bodyPost_ret (v := .tuple #[.agg #[.slice ao1 m1 c1, .slice ao2 m2 c2], .bool true]) (by simp [results, Tryz.results20, go_sem, r0, r1]) rfl ⟨.slice ao1 m1 c1, .slice ao2 m2 c2, by simp, by simpa [onlyIf] using P.ints _ _ i12, by simpa [onlyIf] using P.ints _ _ i2, P.below _ _ jj (by omega)⟩
end Go.Proofs.YtmphnoabkmoafaaGreatDoor
namespace Go.Proofs.YtmphnoabkmoafaaGreatDoor
open Go.RowKit
variable {uu0 : Unit} [Base uu0]
theorem take_eq_step {la lb : List Int} {k : Nat} (hk : k < la.length) (hl : la.length = lb.length) (h : la.take k = lb.take k) (e : la.getD k 0 = lb.getD k 0) : la.take (k + 1) = lb.take (k + 1) := by
  rw [List.take_add_one, List.take_add_one, h]
  congr 1
  have h2 : k < lb.length := by omega
  simp [List.getD, hk, h2] at e ⊢
  exact e
set_option maxRecDepth 100000 in
set_option maxHeartbeats 2000000 in
theorem same_any (a b : Value) (la lb : List Int) (w : World) (ha : IntsAt w a la) (hb : IntsAt w b lb) (hla : la.length ≤ 17592186043904) (hlb : lb.length ≤ 17592186043904) :
    Calls Tryz.prog 56 #[a, b] w fun e w' => e = .returned (.bool (decide (la = lb))) ∧ ∃ n, w' = w.drewN n := by
  obtain ⟨aoa, ca, hva⟩ := ha.shape
  obtain ⟨aob, cb, hvb⟩ := hb.shape
  subst hva hvb
  obtain ⟨na, hna⟩ : ∃ n, n = la.length := ⟨_, rfl⟩
  obtain ⟨nb, hnb⟩ : ∃ n, n = lb.length := ⟨_, rfl⟩
  have Hna := Lib.hid hna
  have Hnb := Lib.hid hnb
  rw [← hna] at ha hla ⊢
  rw [← hnb] at hb hlb ⊢
  clear hna hnb
  have Ha := Lib.hid ha
  have Hb := Lib.hid hb
  clear ha hb
  by_cases hl : na = nb
  · subst hl
    go_enter Tryz.func56, Tryz.ntmps56
    go_wp2
    go_loopw [5] (fun u wr => ∃ k n : Nat, k ≤ na ∧ u = .int .i64 k ∧ la.take k = lb.take k ∧ wr = w.drewN n) (fun u _ => na - (intOf u).toNat)
    case atStart => exact ⟨0, 0, by omega, rfl, by simp, rfl⟩
    case round =>
      obtain ⟨k, n, hk, rfl, htk, rfl⟩ := hrel
      by_cases hlt : k < na
      · have hia := Ha.out
        have hib := Hb.out
        rw [Hna.out] at hia
        obtain ⟨g, off, c', hv, hcell⟩ := hia.cells (by have := Hna.out; omega)
        obtain ⟨rfl, rfl⟩ : aoa = some ⟨g, off, none⟩ ∧ ca = c' := by simpa using hv
        have hnb2 : na = lb.length := Hnb.out
        rw [hnb2] at hib
        obtain ⟨g2, off2, c2', hv2, hcell2⟩ := hib.cells (by omega)
        obtain ⟨rfl, rfl⟩ : aob = some ⟨g2, off2, none⟩ ∧ cb = c2' := by simpa using hv2
        have c0 : ∀ m, (w.drewN m).cell? ⟨g, off + k, none⟩ = some (.int .i64 (la.getD k 0)) := fun m => hcell k (by have := Hna.out; omega)
        have c1 : ∀ m, (w.drewN m).cell? ⟨g2, off2 + k, none⟩ = some (.int .i64 (lb.getD k 0)) := fun m => hcell2 k (by omega)
        obtain ⟨x, hx⟩ : ∃ x, x = la.getD k 0 := ⟨_, rfl⟩
        obtain ⟨y, hy⟩ : ∃ y, y = lb.getD k 0 := ⟨_, rfl⟩
        simp only [← hx] at c0
        simp only [← hy] at c1
        have Htk := Lib.hid htk
        have Hx := Lib.hid hx
        have Hy := Lib.hid hy
        have Hk : Hid (k < la.length ∧ la.length = lb.length) := ⟨by have := Hna.out; omega, by have := Hna.out; omega⟩
        clear hia hib hcell hcell2 hv hv2 htk hx hy hnb2 Ha Hb
        go_wp2
        go_quiet (fail)
        by_cases hxy : x = y
        · have hb : (x != y) = false := by simp [hxy]
          have Hxy := Lib.hid hxy
          clear hxy
          go_wp2
          refine ⟨⟨k + 1, n + nq, by omega, by go_num, ?_, rfl⟩, by simp [intOf]; omega⟩
          exact take_eq_step Hk.out.1 Hk.out.2 Htk.out (by rw [← Hx.out, ← Hy.out]; exact Hxy.out)
        · have hb : (x != y) = true := by simp [hxy]
          have Hxy := Lib.hid hxy
          clear hxy
          go_wp2
          go_ret
          refine ⟨?_, n + nq, World.drewN_drewN _ _ _⟩
          rw [decide_eq_false (fun e => Hxy.out (by rw [Hx.out, Hy.out, e]))]
          rfl
      · obtain rfl : k = na := by omega
        have he : la = lb := by
          have h1 := Hna.out
          have h2 := Hnb.out
          rw [List.take_of_length_le (by omega), List.take_of_length_le (by omega)] at htk
          exact htk
        have He : Hid (decide (la = lb) = true) := decide_eq_true he
        clear he htk Ha Hb
        go_wp2
        go_ret
        exact ⟨by rw [He.out]; rfl, _, rfl⟩
  · have He : Hid (decide (la = lb) = false) := decide_eq_false (fun e => hl (by rw [Hna.out, Hnb.out, e]))
    go_enter Tryz.func56, Tryz.ntmps56
    go_wp2
    go_ret
    exact ⟨by rw [He.out]; rfl, 0, rfl⟩
end Go.Proofs.YtmphnoabkmoafaaGreatDoor
