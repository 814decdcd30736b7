/- Clip, Clone, twin, caps: slices of one's own. -/
import Derived.Deep.RegionHeld3
import Derived.Test.YtmphnoabkmoafaaGreatDoorM10
import Derived.Test.YtmphnoabkmoafaaGreatDoorM3
namespace Go.Proofs.YtmphnoabkmoafaaGreatDoor
open Go.RowKit
set_option linter.unusedVariables false
variable {uu0 : Unit} [Base uu0]
set_option maxRecDepth 100000 in
theorem clip_own (v : Value) (l : List Int) (w : World) (h : IntsAt w v l) :
    Calls Tryz.prog 60 #[v] w fun e w' => ∃ ao, e = .returned (.slice ao l.length l.length) ∧ IntsAt w (.slice ao l.length l.length) l ∧ w' = w := by
  rcases h with ⟨rfl, ao, c, rfl, h0⟩ | ⟨b, off, c, rfl, h0, hc, hB, hcell⟩
  · cases ao with
    | none =>
      obtain rfl := h0 rfl
      go_enter Tryz.func60, Tryz.ntmps60
      go_wp2
      go_ret
      exact ⟨none, rfl, .inl ⟨rfl, none, 0, rfl, fun _ => rfl⟩, rfl⟩
    | some x =>
      go_enter Tryz.func60, Tryz.ntmps60
      go_wp2
      go_ret
      exact ⟨some x, rfl, .inl ⟨rfl, some x, 0, rfl, fun _ => rfl⟩, rfl⟩
  · obtain ⟨n, hn⟩ : ∃ n, n = l.length := ⟨_, rfl⟩
    rw [← hn] at hc ⊢
    have hfin : IntsAt w (.slice (some ⟨b, off, none⟩) n n) l := .inr ⟨b, off, n, by rw [hn], h0, by omega, hB, hcell⟩
    clear hcell hB hn h0
    have d1 : decide ((n : Int) ≤ c) = true := by simp; omega
    go_enter Tryz.func60, Tryz.ntmps60
    go_wp2
    go_ret
    exact ⟨_, rfl, by simpa using hfin, rfl⟩
theorem clone_any (v : Value) (l : List Int) (w : World) (h : IntsAt w v l) (hl : l.length ≤ 17592186043904) :
    Calls Tryz.prog 61 #[v] w fun e w' => ∃ v', e = .returned v' ∧ IntsAt w' v' l ∧ Below w.heap.size w w' := by
  rcases h with ⟨rfl, ao, c, rfl, h0⟩ | ⟨b, off, c, rfl, h0, hc, hB, hcell⟩
  · cases ao with
    | none =>
      obtain rfl := h0 rfl
      refine (Tryz.slices_Clone_int_nil 0 0 w).mono ?_
      rintro e w' ⟨rfl, rfl⟩
      exact ⟨_, rfl, IntsAt.nil _, Below.refl _ _⟩
    | some x =>
      refine (Tryz.slices_Clone_int_zero x c w).mono ?_
      rintro e w' ⟨v', rfl, hown, _, hb⟩
      exact ⟨v', rfl, IntsAt.of_owns (l := []) hown, hb⟩
  · refine (Tryz.slices_Clone_int b off l.length c l w (Nat.le_refl _) (by omega) hcell).mono ?_
    rintro e w' ⟨v', rfl, hown, _, hb⟩
    refine ⟨v', rfl, IntsAt.of_owns (base := w.heap.size) (n := l.length) ?_, hb⟩
    rw [List.take_length] at hown
    exact hown
set_option maxRecDepth 100000 in
set_option maxHeartbeats 2000000 in
theorem twin_any (a b : Value) (la lb : List Int) (w : World) (ha : IntsAt w a la) (hb : IntsAt w b lb) (na : la.length ≤ 17592186043904) (nb : lb.length ≤ 17592186043904) :
    Calls Tryz.prog 25 #[.agg #[a, b]] w fun e w' => ∃ x y, e = .returned (.agg #[x, y]) ∧ IntsAt w' x la ∧ IntsAt w' y lb ∧ Below w.heap.size w w' := by
  obtain ⟨aoa, ma, ca, hva⟩ := ha.shape3
  obtain ⟨aob, mb, cb, hvb⟩ := hb.shape3
  subst hva hvb
  obtain ⟨W, hW, hbel, hWs, hcell⟩ := box2 w (.slice aoa ma ca) (.slice aob mb cb) (.slice none 0 0) (.slice none 0 0) 32 32
  have hI : ∀ W', Below W.heap.size W W' → IntsAt W' (.slice aoa ma ca) la ∧ IntsAt W' (.slice aob mb cb) lb := fun W' h =>
    have k := hbel.trans (h.mono hbel.size)
    ⟨ha.below k (Nat.le_refl _), hb.below k (Nat.le_refl _)⟩
  have c1 : ∀ W', Below W.heap.size W W' → Calls Tryz.prog 61 #[.slice aoa ma ca] W' fun e w' => ∃ v', e = .returned v' ∧ IntsAt w' v' la ∧ Below W'.heap.size W' w' := fun W' h => clone_any _ la W' (hI W' h).1 na
  have c2 : ∀ W', Below W.heap.size W W' → Calls Tryz.prog 61 #[.slice aob mb cb] W' fun e w' => ∃ v', e = .returned v' ∧ IntsAt w' v' lb ∧ Below W'.heap.size W' w' := fun W' h => clone_any _ lb W' (hI W' h).2 nb
  have hb3 : ∀ W', Below W.heap.size W W' → W'.heap[w.heap.size + 1]? = some (.cells #[.slice none 0 0, .slice none 0 0] 32 (0, 0)) := fun W' h => by have := box_last hW h; simpa using this
  have hdr : Below W.heap.size W W.drew := ⟨rfl, rfl, rfl, Nat.le_refl _, fun _ _ => rfl⟩
  have z := hcell W.drew hdr
  obtain ⟨z0, z1, _, _⟩ := z
  have hnW : Hid (w.heap.size + 1 ≤ W.heap.size) := by show _ ≤ _; omega
  have HD := Lib.hid (hdr.mono hnW.out)
  have HS : Hid (∀ w', Below (w.heap.size + 1) W w' → Below (w.heap.size + 1) W w' ∧ w'.cell? ⟨w.heap.size, 0, none⟩ = some (.slice aoa ma ca) ∧ w'.cell? ⟨w.heap.size, 1, none⟩ = some (.slice aob mb cb)) := by
    intro w' h
    obtain ⟨y0, y1, _, _⟩ := hcell W (Below.refl _ _)
    exact ⟨h, (h.cell (p := ⟨w.heap.size, 0, none⟩) (by simp only; omega)).trans y0, (h.cell (p := ⟨w.heap.size, 1, none⟩) (by simp only; omega)).trans y1⟩
  have HB3 := Lib.hid hb3
  have C1 := Lib.hid c1
  have C2 := Lib.hid c2
  have HC := Lib.hid hcell
  have HB := Lib.hid hbel
  obtain ⟨G0⟩ : Nonempty Nat := ⟨0⟩
  clear hb3 c1 c2 hcell hbel hI ha hb hWs
  go_enter Tryz.func25, Tryz.ntmps25
  go_wp2
  rw [← hW]
  clear hW
  go_region_held3 (fun w' => Below (w.heap.size + 1) W w' ∧ w'.cell? ⟨w.heap.size, 0, none⟩ = some (.slice aoa ma ca) ∧ w'.cell? ⟨w.heap.size, 1, none⟩ = some (.slice aob mb cb)) (first | exact HS.out _ HD.out | exact HS.out _ S1.out | exact HS.out _ S2.out | exact HS.out _ ((S2.out.setCell (by simp) _).setCell (by simp) _) | go_keep) ((first
    | (go_at_call 61; have G1 := G0; clear G0; refine (C1.out _ hdr).mono ?_; rintro e w1 ⟨v1, rfl, i1, b1⟩; have j1 : Below W.heap.size W w1 := hdr.trans (b1.mono hdr.size); obtain ⟨d1_0, d1_1, d1_2, d1_3⟩ := HC.out w1 j1; have S1 := Lib.hid (j1.mono hnW.out); obtain ⟨ao0, m0, c0, rfl⟩ := i1.shape3)
    | (go_at_call 60; have G2 := G1; clear G1; refine (clip_own _ _ _ i1).mono ?_; rintro e w1' ⟨ao1, rfl, k1, rfl⟩)
    | (go_at_call 61; have G3 := G2; clear G2; refine (C2.out _ j1).mono ?_; rintro e w2 ⟨v2, rfl, i2, b2⟩; have j2 := j1.trans (b2.mono j1.size); obtain ⟨d2_0, d2_1, d2_2, d2_3⟩ := HC.out w2 j2; have S2 := Lib.hid (j2.mono hnW.out); obtain ⟨ao3, m3, c3, rfl⟩ := i2.shape3; have k12 := k1.below b2 (Nat.le_refl _); obtain ⟨_, _, hfr0, hfr1⟩ := pair_cells (HB3.out w2 j2))
    | (go_at_call 60; have G4 := G3; clear G3; refine (clip_own _ _ _ i2).mono ?_; rintro e w2' ⟨ao2, rfl, k2, rfl⟩)))
  all_goals
    go_wp2
    have jj := HB.out.trans (j2.mono HB.out.size)
    have P := pair_stored (x := .slice ao1 la.length la.length) (y := .slice ao2 lb.length lb.length) (HB3.out _ j2) rfl rfl rfl
    obtain ⟨r0, r1, _, _⟩ := pair_cells P.block
    exact bodyPost_ret (v := .agg #[.slice ao1 la.length la.length, .slice ao2 lb.length lb.length]) (by simp [results, Tryz.results25, go_sem, r0, r1]) rfl ⟨.slice ao1 la.length la.length, .slice ao2 lb.length lb.length, rfl, P.ints _ _ k12, P.ints _ _ k2, P.below _ _ jj (by omega)⟩
set_option maxRecDepth 100000 in
set_option maxHeartbeats 2000000 in
theorem caps_any (a b : Value) (la lb : List Int) (w : World) (ha : IntsAt w a la) (hb : IntsAt w b lb) (na : la.length ≤ 17592186043904) (nb : lb.length ≤ 17592186043904) :
    Calls Tryz.prog 26 #[.agg #[a, b]] w fun e w' => ∃ x y, e = .returned (.agg #[x, y]) ∧ IntsAt w' x la ∧ IntsAt w' y lb ∧ Below w.heap.size w w' := by
  obtain ⟨aoa, ma, ca, hva⟩ := ha.shape3
  obtain ⟨aob, mb, cb, hvb⟩ := hb.shape3
  subst hva hvb
  obtain ⟨W, hW, hbel, hWs, hcell⟩ := box2 w (.slice aoa ma ca) (.slice aob mb cb) (.slice none 0 0) (.slice none 0 0) 34 34
  have hI : ∀ W', Below W.heap.size W W' → IntsAt W' (.slice aoa ma ca) la ∧ IntsAt W' (.slice aob mb cb) lb := fun W' h =>
    have k := hbel.trans (h.mono hbel.size)
    ⟨ha.below k (Nat.le_refl _), hb.below k (Nat.le_refl _)⟩
  have c1 : ∀ W', Below W.heap.size W W' → Calls Tryz.prog 61 #[.slice aoa ma ca] W' fun e w' => ∃ v', e = .returned v' ∧ IntsAt w' v' la ∧ Below W'.heap.size W' w' := fun W' h => clone_any _ la W' (hI W' h).1 na
  have c2 : ∀ W', Below W.heap.size W W' → Calls Tryz.prog 61 #[.slice aob mb cb] W' fun e w' => ∃ v', e = .returned v' ∧ IntsAt w' v' lb ∧ Below W'.heap.size W' w' := fun W' h => clone_any _ lb W' (hI W' h).2 nb
  have hb3 : ∀ W', Below W.heap.size W W' → W'.heap[w.heap.size + 1]? = some (.cells #[.slice none 0 0, .slice none 0 0] 34 (0, 0)) := fun W' h => by have := box_last hW h; simpa using this
  have hdr : Below W.heap.size W W.drew := ⟨rfl, rfl, rfl, Nat.le_refl _, fun _ _ => rfl⟩
  have z := hcell W.drew hdr
  obtain ⟨z0, z1, _, _⟩ := z
  have hnW : Hid (w.heap.size + 1 ≤ W.heap.size) := by show _ ≤ _; omega
  have HD := Lib.hid (hdr.mono hnW.out)
  have HS : Hid (∀ w', Below (w.heap.size + 1) W w' → Below (w.heap.size + 1) W w' ∧ w'.cell? ⟨w.heap.size, 0, none⟩ = some (.slice aoa ma ca) ∧ w'.cell? ⟨w.heap.size, 1, none⟩ = some (.slice aob mb cb)) := by
    intro w' h
    obtain ⟨y0, y1, _, _⟩ := hcell W (Below.refl _ _)
    exact ⟨h, (h.cell (p := ⟨w.heap.size, 0, none⟩) (by simp only; omega)).trans y0, (h.cell (p := ⟨w.heap.size, 1, none⟩) (by simp only; omega)).trans y1⟩
  have HB3 := Lib.hid hb3
  have C1 := Lib.hid c1
  have C2 := Lib.hid c2
  have HC := Lib.hid hcell
  have HB := Lib.hid hbel
  obtain ⟨G0⟩ : Nonempty Nat := ⟨0⟩
  clear hb3 c1 c2 hcell hbel hI ha hb hWs
  go_enter Tryz.func26, Tryz.ntmps26
  go_wp2
  rw [← hW]
  clear hW
  go_region_held3 (fun w' => Below (w.heap.size + 1) W w' ∧ w'.cell? ⟨w.heap.size, 0, none⟩ = some (.slice aoa ma ca) ∧ w'.cell? ⟨w.heap.size, 1, none⟩ = some (.slice aob mb cb)) (first | exact HS.out _ HD.out | exact HS.out _ S1.out | exact HS.out _ S2.out | exact HS.out _ ((S2.out.setCell (by simp) _).setCell (by simp) _) | go_keep) ((first
    | (go_at_call 61; have G1 := G0; clear G0; refine (C1.out _ hdr).mono ?_; rintro e w1 ⟨v1, rfl, i1, b1⟩; have j1 : Below W.heap.size W w1 := hdr.trans (b1.mono hdr.size); obtain ⟨d1_0, d1_1, d1_2, d1_3⟩ := HC.out w1 j1; have S1 := Lib.hid (j1.mono hnW.out); obtain ⟨ao0, m0, c0, rfl⟩ := i1.shape3)
    | (go_at_call 60; have G2 := G1; clear G1; refine (clip_own _ _ _ i1).mono ?_; rintro e w1' ⟨ao1, rfl, k1, rfl⟩)
    | (go_at_call 61; have G3 := G2; clear G2; refine (C2.out _ j1).mono ?_; rintro e w2 ⟨v2, rfl, i2, b2⟩; have j2 := j1.trans (b2.mono j1.size); obtain ⟨d2_0, d2_1, d2_2, d2_3⟩ := HC.out w2 j2; have S2 := Lib.hid (j2.mono hnW.out); obtain ⟨ao3, m3, c3, rfl⟩ := i2.shape3; have k12 := k1.below b2 (Nat.le_refl _); obtain ⟨_, _, hfr0, hfr1⟩ := pair_cells (HB3.out w2 j2))
    | (go_at_call 60; have G4 := G3; clear G3; refine (clip_own _ _ _ i2).mono ?_; rintro e w2' ⟨ao2, rfl, k2, rfl⟩)))
  all_goals
    go_wp2
    have jj := HB.out.trans (j2.mono HB.out.size)
    have P := pair_stored (x := .slice ao1 la.length la.length) (y := .slice ao2 lb.length lb.length) (HB3.out _ j2) rfl rfl rfl
    obtain ⟨r0, r1, _, _⟩ := pair_cells P.block
    exact bodyPost_ret (v := .agg #[.slice ao1 la.length la.length, .slice ao2 lb.length lb.length]) (by simp [results, Tryz.results26, go_sem, r0, r1]) rfl ⟨.slice ao1 la.length la.length, .slice ao2 lb.length lb.length, rfl, P.ints _ _ k12, P.ints _ _ k2, P.below _ _ jj (by omega)⟩
end Go.Proofs.YtmphnoabkmoafaaGreatDoor
