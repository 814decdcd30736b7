/- label.More and Less, and the reference's. label.Less, and the reference's without and Less. -/
import Derived.BigQuiet
import Derived.Test.YtmphnoabkmoafaaGreatDoorM2
import Derived.Test.YtmphnoabkmoafaaGreatDoorM7
import Derived.Deep.RegionHeld3
namespace Go.Proofs.YtmphnoabkmoafaaGreatDoor
open Go.RowKit
variable {uu0 : Unit} [Base uu0]
theorem IntsAt.shape3 {w : World} {v : Value} {l : List Int} (h : IntsAt w v l) : ∃ (ao : Option Addr) (n c : Nat), v = .slice ao n c := by
  obtain ⟨ao, c, h⟩ := h.shape
  exact ⟨ao, _, c, h⟩
def onlyIf (b : Bool) (l : List Int) : List Int := if b then l else []
set_option maxRecDepth 100000 in
set_option maxHeartbeats 2000000 in
theorem more_any (a b c d : Value) (la lb lc ld : List Int) (w : World) (ha : IntsAt w a la) (hb : IntsAt w b lb) (hc : IntsAt w c lc) (hd : IntsAt w d ld)
    (na : la.length ≤ 17592186043904) (nb : lb.length ≤ 17592186043904) (nc : lc.length ≤ 17592186043904) (nd : ld.length ≤ 17592186043904) :
    Calls Tryz.prog 72 #[.agg #[a, b], .agg #[c, d]] w fun e w' => ∃ x y, e = .returned (.tuple #[.agg #[x, y], .bool (joinOk la lc && joinOk lb ld)]) ∧ IntsAt w' x (onlyIf (joinOk la lc && joinOk lb ld) (joinL la lc)) ∧ IntsAt w' y (onlyIf (joinOk la lc && joinOk lb ld) (joinL lb ld)) ∧ Below w.heap.size w w' := by
  obtain ⟨aoa, ma, ca, hva⟩ := ha.shape3
  obtain ⟨aob, mb, cb, hvb⟩ := hb.shape3
  obtain ⟨aoc, mc, cc, hvc⟩ := hc.shape3
  obtain ⟨aod, md, cd, hvd⟩ := hd.shape3
  subst hva hvb hvc hvd
  obtain ⟨W, hW, hbel, hWs, hcell⟩ := box3 w (.slice aoa ma ca) (.slice aob mb cb) (.slice aoc mc cc) (.slice aod md cd) (.slice none 0 0) (.slice none 0 0) 34 34 34
  have hI : ∀ W', Below W.heap.size W W' → IntsAt W' (.slice aoa ma ca) la ∧ IntsAt W' (.slice aob mb cb) lb ∧ IntsAt W' (.slice aoc mc cc) lc ∧ IntsAt W' (.slice aod md cd) ld := fun W' h =>
    have k := hbel.trans (h.mono hbel.size)
    ⟨ha.below k (Nat.le_refl _), hb.below k (Nat.le_refl _), hc.below k (Nat.le_refl _), hd.below k (Nat.le_refl _)⟩
  have c1 := fun W' h => join_any _ _ la lc W' (hI W' h).1 (hI W' h).2.2.1 na nc
  have c2 := fun W' h => join_any _ _ lb ld W' (hI W' h).2.1 (hI W' h).2.2.2 nb nd
  obtain ⟨p, hp⟩ : ∃ s, s = joinOk la lc := ⟨_, rfl⟩
  obtain ⟨q, hq⟩ : ∃ s, s = joinOk lb ld := ⟨_, rfl⟩
  rw [← hp] at c1 ⊢
  rw [← hq] at c2 ⊢
  generalize joinL la lc = l1 at c1 ⊢
  generalize joinL lb ld = l2 at c2 ⊢
  have hb3 : ∀ W', Below W.heap.size W W' → W'.heap[w.heap.size + 1 + 1]? = some (.cells #[.slice none 0 0, .slice none 0 0] 34 (0, 0)) := fun W' h => by have := box_last hW h; simpa using this
  have HB3 := Lib.hid hb3
  subst hW
  have C1 := Lib.hid c1
  have C2 := Lib.hid c2
  have HC := Lib.hid hcell
  have HB := Lib.hid hbel
  have HW := Lib.hid hWs
  obtain ⟨G0⟩ : Nonempty Nat := ⟨0⟩
  clear hb3 c1 c2 hcell hbel hI hp hq ha hb hc hd hWs
  have hcs : p = false ∨ (p = true ∧ q = false) ∨ (p = true ∧ q = true) := by cases p <;> cases q <;> simp
  rcases hcs with rfl | ⟨rfl, rfl⟩ | ⟨rfl, rfl⟩
  · go_enter Tryz.func72, Tryz.ntmps72
    go_wp2_with (first
      | (go_at_call 24; have G1 := G0; clear G0; refine (C1.out _ (Below.refl _ _)).mono ?_; rintro e w1 ⟨v1, rfl, i1, b1⟩; have j1 := b1; obtain ⟨d1_0, d1_1, d1_2, d1_3, d1_4, d1_5⟩ := HC.out w1 j1; obtain ⟨ao1, m1, c1, rfl⟩ := i1.shape3)
      | (go_at_call 24; have G2 := G1; clear G1; refine (C2.out w1 j1).mono ?_; rintro e w2 ⟨v2, rfl, i2, b2⟩; have j2 := j1.trans (b2.mono j1.size); obtain ⟨d2_0, d2_1, d2_2, d2_3, d2_4, d2_5⟩ := HC.out w2 j2; obtain ⟨ao2, m2, c2, rfl⟩ := i2.shape3; have i12 := i1.below b2 (Nat.le_refl _); obtain ⟨_, _, hfr0, hfr1⟩ := pair_cells (HB3.out w2 j2)))
    have jj := HB.out.trans (j2.mono HB.out.size)
    have P := pair_stored (x := .slice none 0 0) (y := .slice none 0 0) (HB3.out w2 j2) rfl rfl rfl
    obtain ⟨r0, r1, _, _⟩ := pair_cells P.block
    exact bodyPost_ret (v := .tuple #[.agg #[.slice none 0 0, .slice none 0 0], .bool false]) (by simp [results, Tryz.results72, go_sem, r0, r1]) rfl ⟨.slice none 0 0, .slice none 0 0, by simp, by simpa [onlyIf] using IntsAt.nil _, by simpa [onlyIf] using IntsAt.nil _, P.below _ _ jj (by omega)⟩
  · go_enter Tryz.func72, Tryz.ntmps72
    go_wp2_with (first
      | (go_at_call 24; have G1 := G0; clear G0; refine (C1.out _ (Below.refl _ _)).mono ?_; rintro e w1 ⟨v1, rfl, i1, b1⟩; have j1 := b1; obtain ⟨d1_0, d1_1, d1_2, d1_3, d1_4, d1_5⟩ := HC.out w1 j1; obtain ⟨ao1, m1, c1, rfl⟩ := i1.shape3)
      | (go_at_call 24; have G2 := G1; clear G1; refine (C2.out w1 j1).mono ?_; rintro e w2 ⟨v2, rfl, i2, b2⟩; have j2 := j1.trans (b2.mono j1.size); obtain ⟨d2_0, d2_1, d2_2, d2_3, d2_4, d2_5⟩ := HC.out w2 j2; obtain ⟨ao2, m2, c2, rfl⟩ := i2.shape3; have i12 := i1.below b2 (Nat.le_refl _); obtain ⟨_, _, hfr0, hfr1⟩ := pair_cells (HB3.out w2 j2)))
    have jj := HB.out.trans (j2.mono HB.out.size)
    have P := pair_stored (x := .slice none 0 0) (y := .slice none 0 0) (HB3.out w2 j2) rfl rfl rfl
    obtain ⟨r0, r1, _, _⟩ := pair_cells P.block
    exact bodyPost_ret (v := .tuple #[.agg #[.slice none 0 0, .slice none 0 0], .bool false]) (by simp [results, Tryz.results72, go_sem, r0, r1]) rfl ⟨.slice none 0 0, .slice none 0 0, by simp, by simpa [onlyIf] using IntsAt.nil _, by simpa [onlyIf] using IntsAt.nil _, P.below _ _ jj (by omega)⟩
  · go_enter Tryz.func72, Tryz.ntmps72
    go_wp2_with (first
      | (go_at_call 24; have G1 := G0; clear G0; refine (C1.out _ (Below.refl _ _)).mono ?_; rintro e w1 ⟨v1, rfl, i1, b1⟩; have j1 := b1; obtain ⟨d1_0, d1_1, d1_2, d1_3, d1_4, d1_5⟩ := HC.out w1 j1; obtain ⟨ao1, m1, c1, rfl⟩ := i1.shape3)
      | (go_at_call 24; have G2 := G1; clear G1; refine (C2.out w1 j1).mono ?_; rintro e w2 ⟨v2, rfl, i2, b2⟩; have j2 := j1.trans (b2.mono j1.size); obtain ⟨d2_0, d2_1, d2_2, d2_3, d2_4, d2_5⟩ := HC.out w2 j2; obtain ⟨ao2, m2, c2, rfl⟩ := i2.shape3; have i12 := i1.below b2 (Nat.le_refl _); obtain ⟨_, _, hfr0, hfr1⟩ := pair_cells (HB3.out w2 j2)))
    have jj := HB.out.trans (j2.mono HB.out.size)
    have P := pair_stored (x := .slice ao1 m1 c1) (y := .slice ao2 m2 c2) (HB3.out w2 j2) rfl rfl rfl
    obtain ⟨r0, r1, _, _⟩ := pair_cells P.block
    exact bodyPost_ret (v := .tuple #[.agg #[.slice ao1 m1 c1, .slice ao2 m2 c2], .bool true]) (by simp [results, Tryz.results72, go_sem, r0, r1]) rfl ⟨.slice ao1 m1 c1, .slice ao2 m2 c2, by simp, by simpa [onlyIf] using P.ints _ _ i12, by simpa [onlyIf] using P.ints _ _ i2, P.below _ _ jj (by omega)⟩
end Go.Proofs.YtmphnoabkmoafaaGreatDoor
namespace Go.Proofs.YtmphnoabkmoafaaGreatDoor
open Go.RowKit
variable {uu0 : Unit} [Base uu0]
set_option maxRecDepth 100000 in
set_option maxHeartbeats 2000000 in
theorem less_any (a b c d : Value) (la lb lc ld : List Int) (w : World) (ha : IntsAt w a la) (hb : IntsAt w b lb) (hc : IntsAt w c lc) (hd : IntsAt w d ld)
    (na : la.length ≤ 17592186043904) (nb : lb.length ≤ 17592186043904) (nc : lc.length ≤ 17592186043904) (nd : ld.length ≤ 17592186043904) :
    Calls Tryz.prog 67 #[.agg #[a, b], .agg #[c, d]] w fun e w' => ∃ x y, e = .returned (.agg #[x, y]) ∧ IntsAt w' x (lessL la lc) ∧ IntsAt w' y (lessL lb ld) ∧ Below w.heap.size w w' := by
  obtain ⟨aoa, ma, ca, hva⟩ := ha.shape3
  obtain ⟨aob, mb, cb, hvb⟩ := hb.shape3
  obtain ⟨aoc, mc, cc, hvc⟩ := hc.shape3
  obtain ⟨aod, md, cd, hvd⟩ := hd.shape3
  subst hva hvb hvc hvd
  obtain ⟨W, hW, hbel, hWs, hcell⟩ := box3 w (.slice aoa ma ca) (.slice aob mb cb) (.slice aoc mc cc) (.slice aod md cd) (.slice none 0 0) (.slice none 0 0) 34 34 34
  have hI : ∀ W', Below W.heap.size W W' → IntsAt W' (.slice aoa ma ca) la ∧ IntsAt W' (.slice aob mb cb) lb ∧ IntsAt W' (.slice aoc mc cc) lc ∧ IntsAt W' (.slice aod md cd) ld := fun W' h =>
    have k := hbel.trans (h.mono hbel.size)
    ⟨ha.below k (Nat.le_refl _), hb.below k (Nat.le_refl _), hc.below k (Nat.le_refl _), hd.below k (Nat.le_refl _)⟩
  have c1 : ∀ W', Below W.heap.size W W' → Calls Tryz.prog 99 #[.slice aoa ma ca, .slice aoc mc cc, .func (.func 100) #[] #[]] W' fun e w' => ∃ v', e = .returned v' ∧ IntsAt w' v' (lessL la lc) ∧ Below W'.heap.size W' w' := fun W' h => someOut_any _ _ la lc W' (hI W' h).1 (hI W' h).2.2.1 na nc
  have c2 : ∀ W', Below W.heap.size W W' → Calls Tryz.prog 99 #[.slice aob mb cb, .slice aod md cd, .func (.func 100) #[] #[]] W' fun e w' => ∃ v', e = .returned v' ∧ IntsAt w' v' (lessL lb ld) ∧ Below W'.heap.size W' w' := fun W' h => someOut_any _ _ lb ld W' (hI W' h).2.1 (hI W' h).2.2.2 nb nd
  generalize lessL la lc = l1 at c1 ⊢
  generalize lessL lb ld = l2 at c2 ⊢
  have hb3 : ∀ W', Below W.heap.size W W' → W'.heap[w.heap.size + 1 + 1]? = some (.cells #[.slice none 0 0, .slice none 0 0] 34 (0, 0)) := fun W' h => by have := box_last hW h; simpa using this
  have hdr : Below W.heap.size W W.drew := ⟨rfl, rfl, rfl, Nat.le_refl _, fun _ _ => rfl⟩
  have z := hcell W.drew hdr
  obtain ⟨z0, z1, z2, z3, _, _⟩ := z
  have hnW : Hid (w.heap.size + 1 + 1 ≤ W.heap.size) := by show _ ≤ _; omega
  have HD := Lib.hid (hdr.mono hnW.out)
  have HS : Hid (∀ w', Below (w.heap.size + 1 + 1) W w' → Below (w.heap.size + 1 + 1) W w' ∧ w'.cell? ⟨w.heap.size, 0, none⟩ = some (.slice aoa ma ca) ∧ w'.cell? ⟨w.heap.size, 1, none⟩ = some (.slice aob mb cb) ∧ w'.cell? ⟨w.heap.size + 1, 0, none⟩ = some (.slice aoc mc cc) ∧ w'.cell? ⟨w.heap.size + 1, 1, none⟩ = some (.slice aod md cd)) := by
    intro w' h
    obtain ⟨y0, y1, y2, y3, _, _⟩ := hcell W (Below.refl _ _)
    exact ⟨h, (h.cell (p := ⟨w.heap.size, 0, none⟩) (by simp only; omega)).trans y0, (h.cell (p := ⟨w.heap.size, 1, none⟩) (by simp only; omega)).trans y1, (h.cell (p := ⟨w.heap.size + 1, 0, none⟩) (by simp only; omega)).trans y2, (h.cell (p := ⟨w.heap.size + 1, 1, none⟩) (by simp only; omega)).trans y3⟩
  have HB3 := Lib.hid hb3
  have C1 := Lib.hid c1
  have C2 := Lib.hid c2
  have HC := Lib.hid hcell
  have HB := Lib.hid hbel
  obtain ⟨G0⟩ : Nonempty Nat := ⟨0⟩
  clear hb3 c1 c2 hcell hbel hI ha hb hc hd hWs
  go_enter Tryz.func67, Tryz.ntmps67
  go_wp2
  rw [← hW]
  clear hW
  go_region_held3 (fun w' => Below (w.heap.size + 1 + 1) W w' ∧ w'.cell? ⟨w.heap.size, 0, none⟩ = some (.slice aoa ma ca) ∧ w'.cell? ⟨w.heap.size, 1, none⟩ = some (.slice aob mb cb) ∧ w'.cell? ⟨w.heap.size + 1, 0, none⟩ = some (.slice aoc mc cc) ∧ w'.cell? ⟨w.heap.size + 1, 1, none⟩ = some (.slice aod md cd)) (first | exact HS.out _ HD.out | exact HS.out _ S1.out | exact HS.out _ S2.out | exact HS.out _ ((S2.out.setCell (by simp) _).setCell (by simp) _) | go_keep) ((first
    | (go_at_call 99; have G1 := G0; clear G0; refine (C1.out _ hdr).mono ?_; rintro e w1 ⟨v1, rfl, i1, b1⟩; have j1 : Below W.heap.size W w1 := hdr.trans (b1.mono hdr.size); obtain ⟨d1_0, d1_1, d1_2, d1_3, d1_4, d1_5⟩ := HC.out w1 j1; have S1 := Lib.hid (j1.mono hnW.out); obtain ⟨ao1, m1, c1, rfl⟩ := i1.shape3)
    | (go_at_call 99; have G2 := G1; clear G1; refine (C2.out w1 j1).mono ?_; rintro e w2 ⟨v2, rfl, i2, b2⟩; have j2 := j1.trans (b2.mono j1.size); obtain ⟨d2_0, d2_1, d2_2, d2_3, d2_4, d2_5⟩ := HC.out w2 j2; have S2 := Lib.hid (j2.mono hnW.out); obtain ⟨ao2, m2, c2, rfl⟩ := i2.shape3; have i12 := i1.below b2 (Nat.le_refl _); obtain ⟨_, _, hfr0, hfr1⟩ := pair_cells (HB3.out w2 j2))))
  all_goals
    go_wp2
    have jj := HB.out.trans (j2.mono HB.out.size)
    have P := pair_stored (x := .slice ao1 m1 c1) (y := .slice ao2 m2 c2) (HB3.out w2 j2) rfl rfl rfl
    obtain ⟨r0, r1, _, _⟩ := pair_cells P.block
    exact bodyPost_ret (v := .agg #[.slice ao1 m1 c1, .slice ao2 m2 c2]) (by simp [results, Tryz.results67, go_sem, r0, r1]) rfl ⟨.slice ao1 m1 c1, .slice ao2 m2 c2, rfl, P.ints _ _ i12, P.ints _ _ i2, P.below _ _ jj (by omega)⟩
end Go.Proofs.YtmphnoabkmoafaaGreatDoor
