/- The reference's Meet: what is in both. -/
import Derived.Test.YtgkpdkdkpmkgdaaRefJoin
import Derived.Test.YtgkpdkdkpmkgdaaMeet
namespace Go.Proofs.Ytgkpdkdkpmkgdaa
open Go.RowKit
set_option maxRecDepth 100000 in
set_option maxHeartbeats 2000000 in
theorem refmeet_any (a b : Value) (la lb : List Int) (w : World) (ha : IntsAt w a la) (hb : IntsAt w b lb) (hla : la.length ≤ 17592186043904) (hlb : lb.length ≤ 17592186043904) :
    Calls Try.prog 19 #[a, b] w fun e w' => ∃ v', e = .returned v' ∧ IntsAt w' v' (meetL la lb) ∧ Below w.heap.size w w' := by
  obtain ⟨i0, hi, hz0, hz1, hz2⟩ := info_parts info3
  have hA : ∀ W, Below w.heap.size w W → IntsAt W a la ∧ IntsAt W b lb := fun W h => ⟨ha.below h (Nat.le_refl _), hb.below h (Nat.le_refl _)⟩
  have h1 : ∀ W, Below w.heap.size w W → ∀ m, Calls Try.prog 17 #[a] (W.drewN m) fun e w' => e = .returned (.bool (setL la)) ∧ ∃ m', w' = W.drewN m' := fun W h m => refset_at a la W (hA W h).1 (by omega) m
  have h2 : ∀ W, Below w.heap.size w W → ∀ m, Calls Try.prog 17 #[b] (W.drewN m) fun e w' => e = .returned (.bool (setL lb)) ∧ ∃ m', w' = W.drewN m' := fun W h m => refset_at b lb W (hA W h).2 (by omega) m
  obtain ⟨aoa, ca, hva⟩ := ha.shape
  obtain ⟨aob, cb, hvb⟩ := hb.shape
  subst hva
  subst hvb
  obtain ⟨sa, hsa⟩ : ∃ s, s = setL la := ⟨_, rfl⟩
  obtain ⟨sb, hsb⟩ : ∃ s, s = setL lb := ⟨_, rfl⟩
  obtain ⟨na, hna⟩ : ∃ n, n = la.length := ⟨_, rfl⟩
  obtain ⟨nb, hnb⟩ : ∃ n, n = lb.length := ⟨_, rfl⟩
  have Hj : Hid (meetL la lb = if sa && sb then la.filter (fun x => decide (x ∈ lb)) else []) := by rw [hsa, hsb]; rfl
  simp only [← hsa] at h1
  simp only [← hsb] at h2
  rw [← hna] at ha h1 hA hla ⊢
  rw [← hnb] at h2 hA hlb ⊢
  have Ha := Lib.hid hA
  have Ha0 := Lib.hid ha
  have H1 := Lib.hid h1
  have H2 := Lib.hid h2
  have Hna := Lib.hid hna
  have Hnb := Lib.hid hnb
  have F : True := trivial
  clear hsa hsb ha hb h1 h2 hA hna hnb
  by_cases hs : (sa && sb) = true
  · obtain ⟨rfl, rfl⟩ : sa = true ∧ sb = true := by simpa using hs
    clear hs
    go_enter Try.func19, Try.ntmps19
    go_wp2
    go_loopw [5, 6] (fun u i wr => ∃ (k m : Nat) (l : List Int) (ao : Option Addr) (c : Nat), k ≤ na ∧ m ≤ k ∧ i = .int .i64 k ∧ u = .slice ao m c ∧ l = (la.take k).filter (fun x => decide (x ∈ lb)) ∧ wr.ownsRow w.heap.size 3 1 (.slice ao m c) m (lits l) ∧ Below w.heap.size w wr) (fun _ i _ => na - (intOf i).toNat)
    case atStart => exact ⟨0, 0, [], none, 0, by omega, by omega, rfl, rfl, by simp, by simpa [lits] using World.ownsRow_nil _ _ _ _, Below.refl _ _⟩
    case round =>
      obtain ⟨k, m, l, ao, c, hk, hmk, rfl, rfl, hl, hown, hbel⟩ := hrel
      have Hl := Lib.hid hl
      have Hown := Lib.hid hown
      clear hl hown
      have hc1 := H1.out wr hbel 0
      have HC1 : Hid (Calls Try.prog 17 #[.slice aoa na ca] wr fun e w' => e = .returned (.bool true) ∧ ∃ m', w' = wr.drewN m') := hc1
      clear hc1
      have hc2 := H2.out wr hbel
      have HC2 := Lib.hid hc2
      clear hc2
      by_cases hlt : k < na
      · have hia := (Ha.out wr hbel).1
        rw [Hna.out] at hia
        obtain ⟨g, off, c', hv, hcell⟩ := hia.cells (by have := Hna.out; omega)
        obtain ⟨rfl, rfl⟩ : aoa = some ⟨g, off, none⟩ ∧ ca = c' := by simpa using hv
        have c0 : ∀ m, (wr.drewN m).cell? ⟨g, off + k, none⟩ = some (.int .i64 (la.getD k 0)) := fun _ => hcell k (by have := Hna.out; omega)
        obtain ⟨x, hx⟩ : ∃ x, x = la.getD k 0 := ⟨_, rfl⟩
        simp only [← hx] at c0
        have hkl : k < la.length := by have := Hna.out; omega
        have Htk : Hid (la.take (k + 1) = la.take k ++ [x]) := by
          show _ = _
          rw [List.take_add_one, hx]; simp [List.getD, hkl]
        clear hia hcell hv hx hkl
        have hhas := fun m => has_any _ lb x (wr.drewN m) ((Ha.out wr hbel).2.drewN m) (by rw [← Hnb.out]; omega)
        have Hhas := Lib.hid hhas
        clear hhas
        by_cases hxb : x ∈ lb
        · have hb : decide (x ∈ lb) = true := by simp [hxb]
          clear hxb
          go_wp2_with (first
            | (go_at_call 17; have G := F; clear F; refine HC1.out.mono ?_; rintro e w1 ⟨rfl, m1, rfl⟩)
            | (go_at_call 17; have G2 := G; clear G; refine (HC2.out m1).mono ?_; rintro e w1 ⟨rfl, m2, rfl⟩; have c1 := c0 m2; clear c0)
            | (go_at_call 49; refine (Hhas.out m2).mono ?_; rintro e w1 ⟨rfl, rfl⟩; rw [hb])
            | ((with_reducible show wpList _ _ _ (⟨some 33, _, _, _, _, _⟩ :: _) _ _); go_must (refine wpList_append_ints rfl _ _ 22 rfl w.heap.size 3 i0 (.int .i64 0) und22 hi hz0 hz1 hz2 rfl _ m l [x] rfl ((show World.ownsRow (wr.drewN m2) w.heap.size 3 1 _ m (lits l) from Hown.out).alloc _) _ rfl (IntsAt.new (wr.drewN m2) 3 [x] (by simp)) (by simp; omega) (by have := hbel.size; simp; omega) ?_; intro v4 w4 hown4 hg4 hn4; simp only [Act.put, List.setIfInBounds_toArray, List.set_cons_zero, List.set_cons_succ]; obtain ⟨ao4, c4, rfl, hc4, _⟩ := owns_shape hown4; have Hown4 := Lib.hid hown4; clear hown4 hn4)))
          refine ⟨⟨k + 1, m + 1, l ++ [x], ao4, c4, by omega, by omega, by go_num, rfl, ?_, Hown4.out, ((below_drawn hbel m2).alloc hbel.size _).grown hg4 (by have := hbel.size; simp; omega) (fun q hq => (Hown.out.lt q hq).1)⟩, by simp [intOf]; omega⟩
          rw [Htk.out, List.filter_append, ← Hl.out]; simp [hb]
        · have hb : decide (x ∈ lb) = false := by simp [hxb]
          clear hxb
          go_wp2_with (first
            | (go_at_call 17; have G := F; clear F; refine HC1.out.mono ?_; rintro e w1 ⟨rfl, m1, rfl⟩)
            | (go_at_call 17; have G2 := G; clear G; refine (HC2.out m1).mono ?_; rintro e w1 ⟨rfl, m2, rfl⟩; have c1 := c0 m2; clear c0)
            | (go_at_call 49; refine (Hhas.out m2).mono ?_; rintro e w1 ⟨rfl, rfl⟩; rw [hb]))
          refine ⟨⟨k + 1, m, l, ao, c, by omega, by omega, by go_num, rfl, ?_, Hown.out, below_drawn hbel m2⟩, by simp [intOf]; omega⟩
          rw [Htk.out, List.filter_append, ← Hl.out]; simp [hb]
      · obtain rfl : k = na := by omega
        go_wp2
        go_ret
        rw [Hj.out]
        refine ⟨_, rfl, ?_, hbel⟩
        rw [Hl.out, List.take_of_length_le (by have := Hna.out; omega)] at Hown
        exact IntsAt.of_owns Hown.out
  · have hs' : sa = false ∨ sa = true ∧ sb = false := by
      rcases sa with _ | _
      · exact .inl rfl
      · rcases sb with _ | _
        · exact .inr ⟨rfl, rfl⟩
        · simp at hs
    clear hs
    have fin : ∀ m, IntsAt (w.drewN m) (.slice none 0 0) (meetL la lb) := fun m => by
      rw [Hj.out]
      rcases hs' with rfl | ⟨rfl, rfl⟩
      · exact IntsAt.nil _
      · exact IntsAt.nil _
    have Fin := Lib.hid fin
    clear fin
    go_enter Try.func19, Try.ntmps19
    go_wp2
    go_loopw [5, 6] (fun u i wr => u = .slice none 0 0 ∧ i = .int .i64 0 ∧ wr = w) (fun _ _ _ => 0)
    case atStart => exact ⟨rfl, rfl, rfl⟩
    case round =>
      obtain ⟨rfl, rfl, hwr⟩ := hrel
      subst hwr
      have hc1 := H1.out wr (Below.refl _ _) 0
      have HC1 : Hid (Calls Try.prog 17 #[.slice aoa na ca] wr fun e w' => e = .returned (.bool sa) ∧ ∃ m', w' = wr.drewN m') := hc1
      clear hc1
      have hc2 := H2.out wr (Below.refl _ _)
      have HC2 := Lib.hid hc2
      clear hc2
      by_cases h0 : 0 < na
      · rcases hs' with rfl | ⟨rfl, rfl⟩
        · go_wp2_with (first
            | (go_at_call 17; have G := F; clear F; refine HC1.out.mono ?_; rintro e w1 ⟨rfl, m1, rfl⟩))
          go_ret
          exact ⟨_, rfl, Fin.out m1, below_drawn (Below.refl _ _) _⟩
        · go_wp2_with (first
            | (go_at_call 17; have G := F; clear F; refine HC1.out.mono ?_; rintro e w1 ⟨rfl, m1, rfl⟩)
            | (go_at_call 17; have G2 := G; clear G; refine (HC2.out m1).mono ?_; rintro e w1 ⟨rfl, m2, rfl⟩))
          go_ret
          exact ⟨_, rfl, Fin.out m2, below_drawn (Below.refl _ _) _⟩
      · obtain rfl : na = 0 := by omega
        clear hs'
        go_wp2
        go_ret
        exact ⟨_, rfl, Fin.out 0, Below.refl _ _⟩
end Go.Proofs.Ytgkpdkdkpmkgdaa
