/- label.Less, and the reference's without and Less. -/
import Derived.Deep.RegionHeld3
import Derived.Test.YtgkpdkdkpmkgdaaMore
namespace Go.Proofs.Ytgkpdkdkpmkgdaa
open Go.RowKit
set_option maxRecDepth 100000 in
set_option maxHeartbeats 2000000 in
theorem without_any (a b : Value) (la lb : List Int) (w : World) (ha : IntsAt w a la) (hb : IntsAt w b lb) (hla : la.length ≤ 17592186043904) (hlb : lb.length ≤ 17592186043904) :
    Calls Try.prog 55 #[a, b] w fun e w' => ∃ v', e = .returned v' ∧ IntsAt w' v' (lessL la lb) ∧ Below w.heap.size w w' := by
  obtain ⟨i0, hi, hz0, hz1, hz2⟩ := info_parts info3
  have hA : ∀ W, Below w.heap.size w W → IntsAt W a la ∧ IntsAt W b lb := fun W h => ⟨ha.below h (Nat.le_refl _), hb.below h (Nat.le_refl _)⟩
  obtain ⟨aoa, ca, hva⟩ := ha.shape
  obtain ⟨aob, cb, hvb⟩ := hb.shape
  subst hva
  subst hvb
  obtain ⟨na, hna⟩ : ∃ n, n = la.length := ⟨_, rfl⟩
  obtain ⟨nb, hnb⟩ : ∃ n, n = lb.length := ⟨_, rfl⟩
  have Hj : Hid (lessL la lb = la.filter (fun x => !decide (x ∈ lb))) := Lib.hid rfl
  rw [← hna] at ha hA hla ⊢
  rw [← hnb] at hA hlb ⊢
  have Ha := Lib.hid hA
  have Ha0 := Lib.hid ha
  have Hna := Lib.hid hna
  have Hnb := Lib.hid hnb
  clear ha hb hA hna hnb
  go_enter Try.func55, Try.ntmps55
  go_wp2
  go_loopw [5, 6] (fun u i wr => ∃ (k m : Nat) (l : List Int) (ao : Option Addr) (c : Nat), k ≤ na ∧ m ≤ k ∧ i = .int .i64 k ∧ u = .slice ao m c ∧ l = (la.take k).filter (fun x => !decide (x ∈ lb)) ∧ wr.ownsRow w.heap.size 3 1 (.slice ao m c) m (lits l) ∧ Below w.heap.size w wr) (fun _ i _ => na - (intOf i).toNat)
  case atStart => exact ⟨0, 0, [], none, 0, by omega, by omega, rfl, rfl, by simp, by simpa [lits] using World.ownsRow_nil _ _ _ _, Below.refl _ _⟩
  case round =>
    obtain ⟨k, m, l, ao, c, hk, hmk, rfl, rfl, hl, hown, hbel⟩ := hrel
    have Hl := Lib.hid hl
    have Hown := Lib.hid hown
    clear hl hown
    by_cases hlt : k < na
    · have hia := (Ha.out wr hbel).1
      rw [Hna.out] at hia
      obtain ⟨g, off, c', hv, hcell⟩ := hia.cells (by have := Hna.out; omega)
      obtain ⟨rfl, rfl⟩ : aoa = some ⟨g, off, none⟩ ∧ ca = c' := by simpa using hv
      have c0 : wr.cell? ⟨g, off + k, none⟩ = some (.int .i64 (la.getD k 0)) := hcell k (by have := Hna.out; omega)
      obtain ⟨x, hx⟩ : ∃ x, x = la.getD k 0 := ⟨_, rfl⟩
      simp only [← hx] at c0
      have hkl : k < la.length := by have := Hna.out; omega
      have Htk : Hid (la.take (k + 1) = la.take k ++ [x]) := by
        show _ = _
        rw [List.take_add_one, hx]; simp [List.getD, hkl]
      clear hia hcell hv hx hkl
      have hhas := has_any _ lb x wr (Ha.out wr hbel).2 (by rw [← Hnb.out]; omega)
      have Hhas := Lib.hid hhas
      clear hhas
      by_cases hxb : x ∈ lb
      · have hb : decide (x ∈ lb) = true := by simp [hxb]
        clear hxb
        go_wp2_with (go_at_call 49; refine Hhas.out.mono ?_; rintro e w1 ⟨rfl, rfl⟩; rw [hb])
        refine ⟨⟨k + 1, m, l, ao, c, by omega, by omega, by go_num, rfl, ?_, Hown.out, hbel⟩, by simp [intOf]; omega⟩
        rw [Htk.out, List.filter_append, ← Hl.out]; simp [hb]
      · have hb : decide (x ∈ lb) = false := by simp [hxb]
        clear hxb
        go_wp2_with (first
          | (go_at_call 49; refine Hhas.out.mono ?_; rintro e w1 ⟨rfl, rfl⟩; rw [hb])
          | ((with_reducible show wpList _ _ _ (⟨some 26, _, _, _, _, _⟩ :: _) _ _); go_must (refine wpList_append_ints rfl _ _ 22 rfl w.heap.size 3 i0 (.int .i64 0) und22 hi hz0 hz1 hz2 rfl _ m l [x] rfl (Hown.out.alloc _) _ rfl (IntsAt.new w1 3 [x] (by simp)) (by simp; omega) (by have := hbel.size; simp; omega) ?_; intro v4 w4 hown4 hg4 hn4; simp only [Act.put, List.setIfInBounds_toArray, List.set_cons_zero, List.set_cons_succ]; obtain ⟨ao4, c4, rfl, hc4, _⟩ := owns_shape hown4; have Hown4 := Lib.hid hown4; clear hown4 hn4)))
        refine ⟨⟨k + 1, m + 1, l ++ [x], ao4, c4, by omega, by omega, by go_num, rfl, ?_, Hown4.out, (hbel.alloc hbel.size _).grown hg4 (by have := hbel.size; simp; omega) (fun q hq => (Hown.out.lt q hq).1)⟩, by simp [intOf]; omega⟩
        rw [Htk.out, List.filter_append, ← Hl.out]; simp [hb]
    · obtain rfl : k = na := by omega
      go_wp2
      go_ret
      rw [Hj.out]
      refine ⟨_, rfl, ?_, hbel⟩
      rw [Hl.out, List.take_of_length_le (by have := Hna.out; omega)] at Hown
      exact IntsAt.of_owns Hown.out
set_option maxRecDepth 100000 in
set_option maxHeartbeats 2000000 in
theorem less_any (a b c d : Value) (la lb lc ld : List Int) (w : World) (ha : IntsAt w a la) (hb : IntsAt w b lb) (hc : IntsAt w c lc) (hd : IntsAt w d ld)
    (na : la.length ≤ 17592186043904) (nb : lb.length ≤ 17592186043904) (nc : lc.length ≤ 17592186043904) (nd : ld.length ≤ 17592186043904) :
    Calls Try.prog 27 #[.agg #[a, b], .agg #[c, d]] w fun e w' => ∃ x y, e = .returned (.agg #[x, y]) ∧ IntsAt w' x (lessL la lc) ∧ IntsAt w' y (lessL lb ld) ∧ Below w.heap.size w w' := by
  obtain ⟨aoa, ma, ca, hva⟩ := ha.shape3
  obtain ⟨aob, mb, cb, hvb⟩ := hb.shape3
  obtain ⟨aoc, mc, cc, hvc⟩ := hc.shape3
  obtain ⟨aod, md, cd, hvd⟩ := hd.shape3
  subst hva hvb hvc hvd
  obtain ⟨W, hW, hbel, hWs, hcell⟩ := box3 w (.slice aoa ma ca) (.slice aob mb cb) (.slice aoc mc cc) (.slice aod md cd) (.slice none 0 0) (.slice none 0 0) 37 37 37
  have hI : ∀ W', Below W.heap.size W W' → IntsAt W' (.slice aoa ma ca) la ∧ IntsAt W' (.slice aob mb cb) lb ∧ IntsAt W' (.slice aoc mc cc) lc ∧ IntsAt W' (.slice aod md cd) ld := fun W' h =>
    have k := hbel.trans (h.mono hbel.size)
    ⟨ha.below k (Nat.le_refl _), hb.below k (Nat.le_refl _), hc.below k (Nat.le_refl _), hd.below k (Nat.le_refl _)⟩
  have c1 : ∀ W', Below W.heap.size W W' → Calls Try.prog 52 #[.slice aoa ma ca, .slice aoc mc cc, .func (.func 54) #[] #[]] W' fun e w' => ∃ v', e = .returned v' ∧ IntsAt w' v' (lessL la lc) ∧ Below W'.heap.size W' w' := fun W' h => someOut_any _ _ la lc W' (hI W' h).1 (hI W' h).2.2.1 na nc
  have c2 : ∀ W', Below W.heap.size W W' → Calls Try.prog 52 #[.slice aob mb cb, .slice aod md cd, .func (.func 54) #[] #[]] W' fun e w' => ∃ v', e = .returned v' ∧ IntsAt w' v' (lessL lb ld) ∧ Below W'.heap.size W' w' := fun W' h => someOut_any _ _ lb ld W' (hI W' h).2.1 (hI W' h).2.2.2 nb nd
  generalize lessL la lc = l1 at c1 ⊢
  generalize lessL lb ld = l2 at c2 ⊢
  have hb3 : ∀ W', Below W.heap.size W W' → W'.heap[w.heap.size + 1 + 1]? = some (.cells #[.slice none 0 0, .slice none 0 0] 37 (0, 0)) := fun W' h => by have := box_last hW h; simpa using this
  have hdr : Below W.heap.size W W.drew := ⟨rfl, rfl, rfl, Nat.le_refl _, fun _ _ => rfl⟩
  have z := hcell W.drew hdr
  obtain ⟨z0, z1, z2, z3, _, _⟩ := z
  have hnW : Hid (w.heap.size + 1 + 1 ≤ W.heap.size) := by show _ ≤ _; omega
  have HD := Lib.hid (hdr.mono hnW.out)
  have HS : Hid (∀ w', Below (w.heap.size + 1 + 1) W w' → Below (w.heap.size + 1 + 1) W w' ∧ w'.cell? ⟨w.heap.size, 0, none⟩ = some (.slice aoa ma ca) ∧ w'.cell? ⟨w.heap.size, 1, none⟩ = some (.slice aob mb cb) ∧ w'.cell? ⟨w.heap.size + 1, 0, none⟩ = some (.slice aoc mc cc) ∧ w'.cell? ⟨w.heap.size + 1, 1, none⟩ = some (.slice aod md cd)) := by
    intro w' h
    obtain ⟨y0, y1, y2, y3, _, _⟩ := hcell W (Below.refl _ _)
    exact ⟨h, (h.cell (p := ⟨w.heap.size, 0, none⟩) (by simp only; omega)).trans y0, (h.cell (p := ⟨w.heap.size, 1, none⟩) (by simp only; omega)).trans y1, (h.cell (p := ⟨w.heap.size + 1, 0, none⟩) (by simp only; omega)).trans y2, (h.cell (p := ⟨w.heap.size + 1, 1, none⟩) (by simp only; omega)).trans y3⟩
  have HB3 := Lib.hid hb3
  have C1 := Lib.hid c1
  have C2 := Lib.hid c2
  have HC := Lib.hid hcell
  have HB := Lib.hid hbel
  obtain ⟨G0⟩ : Nonempty Nat := ⟨0⟩
  clear hb3 c1 c2 hcell hbel hI ha hb hc hd hWs
  go_enter Try.func27, Try.ntmps27
  go_wp2
  rw [← hW]
  clear hW
  go_region_held3 (fun w' => Below (w.heap.size + 1 + 1) W w' ∧ w'.cell? ⟨w.heap.size, 0, none⟩ = some (.slice aoa ma ca) ∧ w'.cell? ⟨w.heap.size, 1, none⟩ = some (.slice aob mb cb) ∧ w'.cell? ⟨w.heap.size + 1, 0, none⟩ = some (.slice aoc mc cc) ∧ w'.cell? ⟨w.heap.size + 1, 1, none⟩ = some (.slice aod md cd)) (first | exact HS.out _ HD.out | exact HS.out _ S1.out | exact HS.out _ S2.out | exact HS.out _ ((S2.out.setCell (by simp) _).setCell (by simp) _) | go_keep) ((first
    | (go_at_call 52; have G1 := G0; clear G0; refine (C1.out _ hdr).mono ?_; rintro e w1 ⟨v1, rfl, i1, b1⟩; have j1 : Below W.heap.size W w1 := hdr.trans (b1.mono hdr.size); obtain ⟨d1_0, d1_1, d1_2, d1_3, d1_4, d1_5⟩ := HC.out w1 j1; have S1 := Lib.hid (j1.mono hnW.out); obtain ⟨ao1, m1, c1, rfl⟩ := i1.shape3)
    | (go_at_call 52; have G2 := G1; clear G1; refine (C2.out w1 j1).mono ?_; rintro e w2 ⟨v2, rfl, i2, b2⟩; have j2 := j1.trans (b2.mono j1.size); obtain ⟨d2_0, d2_1, d2_2, d2_3, d2_4, d2_5⟩ := HC.out w2 j2; have S2 := Lib.hid (j2.mono hnW.out); obtain ⟨ao2, m2, c2, rfl⟩ := i2.shape3; have i12 := i1.below b2 (Nat.le_refl _); obtain ⟨_, _, hfr0, hfr1⟩ := pair_cells (HB3.out w2 j2))))
  all_goals
    go_wp2
    have jj := HB.out.trans (j2.mono HB.out.size)
    have P := pair_stored (x := .slice ao1 m1 c1) (y := .slice ao2 m2 c2) (HB3.out w2 j2) rfl rfl rfl
    obtain ⟨r0, r1, _, _⟩ := pair_cells P.block
    exact bodyPost_ret (v := .agg #[.slice ao1 m1 c1, .slice ao2 m2 c2]) (by simp [results, Try.results27, go_sem, r0, r1]) rfl ⟨.slice ao1 m1 c1, .slice ao2 m2 c2, rfl, P.ints _ _ i12, P.ints _ _ i2, P.below _ _ jj (by omega)⟩
set_option maxRecDepth 100000 in
set_option maxHeartbeats 2000000 in
theorem refless_any (a b c d : Value) (la lb lc ld : List Int) (w : World) (ha : IntsAt w a la) (hb : IntsAt w b lb) (hc : IntsAt w c lc) (hd : IntsAt w d ld)
    (na : la.length ≤ 17592186043904) (nb : lb.length ≤ 17592186043904) (nc : lc.length ≤ 17592186043904) (nd : ld.length ≤ 17592186043904) :
    Calls Try.prog 37 #[.agg #[a, b], .agg #[c, d]] w fun e w' => ∃ x y, e = .returned (.agg #[x, y]) ∧ IntsAt w' x (lessL la lc) ∧ IntsAt w' y (lessL lb ld) ∧ Below w.heap.size w w' := by
  obtain ⟨aoa, ma, ca, hva⟩ := ha.shape3
  obtain ⟨aob, mb, cb, hvb⟩ := hb.shape3
  obtain ⟨aoc, mc, cc, hvc⟩ := hc.shape3
  obtain ⟨aod, md, cd, hvd⟩ := hd.shape3
  subst hva hvb hvc hvd
  obtain ⟨W, hW, hbel, hWs, hcell⟩ := box3 w (.slice aoa ma ca) (.slice aob mb cb) (.slice aoc mc cc) (.slice aod md cd) (.slice none 0 0) (.slice none 0 0) 37 37 37
  have hI : ∀ W', Below W.heap.size W W' → IntsAt W' (.slice aoa ma ca) la ∧ IntsAt W' (.slice aob mb cb) lb ∧ IntsAt W' (.slice aoc mc cc) lc ∧ IntsAt W' (.slice aod md cd) ld := fun W' h =>
    have k := hbel.trans (h.mono hbel.size)
    ⟨ha.below k (Nat.le_refl _), hb.below k (Nat.le_refl _), hc.below k (Nat.le_refl _), hd.below k (Nat.le_refl _)⟩
  have c1 : ∀ W', Below W.heap.size W W' → Calls Try.prog 55 #[.slice aoa ma ca, .slice aoc mc cc] W' fun e w' => ∃ v', e = .returned v' ∧ IntsAt w' v' (lessL la lc) ∧ Below W'.heap.size W' w' := fun W' h => without_any _ _ la lc W' (hI W' h).1 (hI W' h).2.2.1 na nc
  have c2 : ∀ W', Below W.heap.size W W' → Calls Try.prog 55 #[.slice aob mb cb, .slice aod md cd] W' fun e w' => ∃ v', e = .returned v' ∧ IntsAt w' v' (lessL lb ld) ∧ Below W'.heap.size W' w' := fun W' h => without_any _ _ lb ld W' (hI W' h).2.1 (hI W' h).2.2.2 nb nd
  generalize lessL la lc = l1 at c1 ⊢
  generalize lessL lb ld = l2 at c2 ⊢
  have hb3 : ∀ W', Below W.heap.size W W' → W'.heap[w.heap.size + 1 + 1]? = some (.cells #[.slice none 0 0, .slice none 0 0] 37 (0, 0)) := fun W' h => by have := box_last hW h; simpa using this
  have hdr : Below W.heap.size W W.drew := ⟨rfl, rfl, rfl, Nat.le_refl _, fun _ _ => rfl⟩
  have z := hcell W.drew hdr
  obtain ⟨z0, z1, z2, z3, _, _⟩ := z
  have hnW : Hid (w.heap.size + 1 + 1 ≤ W.heap.size) := by show _ ≤ _; omega
  have HD := Lib.hid (hdr.mono hnW.out)
  have HS : Hid (∀ w', Below (w.heap.size + 1 + 1) W w' → Below (w.heap.size + 1 + 1) W w' ∧ w'.cell? ⟨w.heap.size, 0, none⟩ = some (.slice aoa ma ca) ∧ w'.cell? ⟨w.heap.size, 1, none⟩ = some (.slice aob mb cb) ∧ w'.cell? ⟨w.heap.size + 1, 0, none⟩ = some (.slice aoc mc cc) ∧ w'.cell? ⟨w.heap.size + 1, 1, none⟩ = some (.slice aod md cd)) := by
    intro w' h
    obtain ⟨y0, y1, y2, y3, _, _⟩ := hcell W (Below.refl _ _)
    exact ⟨h, (h.cell (p := ⟨w.heap.size, 0, none⟩) (by simp only; omega)).trans y0, (h.cell (p := ⟨w.heap.size, 1, none⟩) (by simp only; omega)).trans y1, (h.cell (p := ⟨w.heap.size + 1, 0, none⟩) (by simp only; omega)).trans y2, (h.cell (p := ⟨w.heap.size + 1, 1, none⟩) (by simp only; omega)).trans y3⟩
  have HB3 := Lib.hid hb3
  have C1 := Lib.hid c1
  have C2 := Lib.hid c2
  have HC := Lib.hid hcell
  have HB := Lib.hid hbel
  obtain ⟨G0⟩ : Nonempty Nat := ⟨0⟩
  clear hb3 c1 c2 hcell hbel hI ha hb hc hd hWs
  go_enter Try.func37, Try.ntmps37
  go_wp2
  rw [← hW]
  clear hW
  go_region_held3 (fun w' => Below (w.heap.size + 1 + 1) W w' ∧ w'.cell? ⟨w.heap.size, 0, none⟩ = some (.slice aoa ma ca) ∧ w'.cell? ⟨w.heap.size, 1, none⟩ = some (.slice aob mb cb) ∧ w'.cell? ⟨w.heap.size + 1, 0, none⟩ = some (.slice aoc mc cc) ∧ w'.cell? ⟨w.heap.size + 1, 1, none⟩ = some (.slice aod md cd)) (first | exact HS.out _ HD.out | exact HS.out _ S1.out | exact HS.out _ S2.out | exact HS.out _ ((S2.out.setCell (by simp) _).setCell (by simp) _) | go_keep) ((first
    | (go_at_call 55; have G1 := G0; clear G0; refine (C1.out _ hdr).mono ?_; rintro e w1 ⟨v1, rfl, i1, b1⟩; have j1 : Below W.heap.size W w1 := hdr.trans (b1.mono hdr.size); obtain ⟨d1_0, d1_1, d1_2, d1_3, d1_4, d1_5⟩ := HC.out w1 j1; have S1 := Lib.hid (j1.mono hnW.out); obtain ⟨ao1, m1, c1, rfl⟩ := i1.shape3)
    | (go_at_call 55; have G2 := G1; clear G1; refine (C2.out w1 j1).mono ?_; rintro e w2 ⟨v2, rfl, i2, b2⟩; have j2 := j1.trans (b2.mono j1.size); obtain ⟨d2_0, d2_1, d2_2, d2_3, d2_4, d2_5⟩ := HC.out w2 j2; have S2 := Lib.hid (j2.mono hnW.out); obtain ⟨ao2, m2, c2, rfl⟩ := i2.shape3; have i12 := i1.below b2 (Nat.le_refl _); obtain ⟨_, _, hfr0, hfr1⟩ := pair_cells (HB3.out w2 j2))))
  all_goals
    go_wp2
    have jj := HB.out.trans (j2.mono HB.out.size)
    have P := pair_stored (x := .slice ao1 m1 c1) (y := .slice ao2 m2 c2) (HB3.out w2 j2) rfl rfl rfl
    obtain ⟨r0, r1, _, _⟩ := pair_cells P.block
    exact bodyPost_ret (v := .agg #[.slice ao1 m1 c1, .slice ao2 m2 c2]) (by simp [results, Try.results37, go_sem, r0, r1]) rfl ⟨.slice ao1 m1 c1, .slice ao2 m2 c2, rfl, P.ints _ _ i12, P.ints _ _ i2, P.below _ _ jj (by omega)⟩
end Go.Proofs.Ytgkpdkdkpmkgdaa
