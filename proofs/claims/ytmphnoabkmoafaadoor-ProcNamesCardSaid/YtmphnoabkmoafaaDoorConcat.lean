/- slices.Concat of two lists. -/
import Derived.Test.YtmphnoabkmoafaaDoorSome
import Derived.Test.YtmphnoabkmoafaaDoorGrow
namespace Go.Proofs.YtmphnoabkmoafaaDoor
open Go.RowKit
/-- What Grow at nil leaves is an own row of nothing. -/
theorem grow_any (n : Nat) (w : World) (hn : n ≤ 3000000000) :
    Calls Tryd.prog 60 #[.slice none 0 0, .int .i64 n] w fun e w' => ∃ v', e = .returned v' ∧ w'.ownsRow w.heap.size 3 1 v' 0 (lits []) ∧ Below w.heap.size w w' := by
  obtain ⟨i0, hi, hz0, hz1, hz2⟩ := info_parts info3
  rcases Nat.eq_zero_or_pos n with rfl | h0
  · refine (Tryd.slices_Grow_zero w).mono ?_
    rintro e w' ⟨rfl, rfl⟩
    exact ⟨_, rfl, World.ownsRow_nil _ _ _ _, Below.refl _ _⟩
  · refine (Tryd.slices_Grow_nil i0 (.int .i64 0) hi hz0 (by omega) n w (by omega) (by rw [hz2]; omega) (by omega)).mono ?_
    rintro e w' ⟨rfl, rfl⟩
    have hb := heap_alloc_new w.drew (.cells (#[] ++ Builtin.zeroCells (Value.int .i64 0).cells (0 + n - 0) ++ Builtin.zeroCells (Value.int .i64 0).cells (grownCap w (0 + n) 0 3 - (0 + n))) 3)
    have hge := grownCap_ge w (0 + n) 0 3
    have hmx := grownCap_le_maxLen w (0 + n) 0 3 (by unfold maxLen; omega)
    refine ⟨_, rfl, ⟨rfl, .inr ⟨w.heap.size, grownCap w (0 + n) 0 3, _, rfl, Nat.le_refl _, hb, Nat.zero_le _, hmx, ?_, by simp [lits]⟩⟩, ?_⟩
    · simp [Builtin.zeroCells]
      rw [show (Value.int .i64 0).cells.size = 1 from rfl]
      rw [Nat.zero_add] at hge
      omega
    · exact ((⟨rfl, rfl, rfl, Nat.le_refl _, fun _ _ => rfl⟩ : Below w.heap.size w w.drew)).alloc (Nat.le_refl _) _
theorem und106 : Tryd.prog.underlying 106 = some (.slice 22) := by kernel_rfl
set_option maxRecDepth 100000 in
set_option maxHeartbeats 2000000 in
theorem concat_any (q : Nat) (a b : Value) (la lb : List Int) (w : World) (hq0 : w.cell? ⟨q, 0, none⟩ = some a) (hq1 : w.cell? ⟨q, 1, none⟩ = some b) (hq : q < w.heap.size) (ha : IntsAt w a la) (hb : IntsAt w b lb) (hla : la.length ≤ 1000000000) (hlb : lb.length ≤ 1000000000) :
    Calls Tryd.prog 45 #[.slice (some ⟨q, 0, none⟩) 2 2] w fun e w' => ∃ v', e = .returned v' ∧ w'.ownsRow w.heap.size 3 1 v' (la.length + lb.length) (lits (la ++ lb)) ∧ Below w.heap.size w w' := by
  obtain ⟨i0, hi, hz0, hz1, hz2⟩ := info_parts info3
  obtain ⟨aoa, ca, hva⟩ := ha.shape
  obtain ⟨aob, cb, hvb⟩ := hb.shape
  obtain ⟨na, hna⟩ : ∃ n, n = la.length := ⟨_, rfl⟩
  obtain ⟨nb, hnb⟩ : ∃ n, n = lb.length := ⟨_, rfl⟩
  subst hva
  subst hvb
  have Ha := Lib.hid ha
  have Hb := Lib.hid hb
  clear ha hb
  rw [← hna] at hla hq0 Ha ⊢
  rw [← hnb] at hlb hq1 Hb ⊢
  have Hna := Lib.hid hna
  have Hnb := Lib.hid hnb
  clear hna hnb
  go_enter Tryd.func45, Tryd.ntmps45
  go_wp2
  go_loop [3, 11] (fun s u => u = .int .i64 0 ∧ s = .int .i64 0 ∨ u = .int .i64 1 ∧ s = .int .i64 na ∨ u = .int .i64 2 ∧ s = .int .i64 ((na : Int) + nb)) (fun _ u => 2 - (intOf u).toNat)
  case atStart => exact .inl ⟨rfl, rfl⟩
  case round =>
    rcases hrel with ⟨rfl, rfl⟩ | ⟨rfl, rfl⟩ | ⟨rfl, rfl⟩
    · go_wp2
      exact ⟨.inr (.inl ⟨rfl, rfl⟩), by simp [intOf]⟩
    · go_wp2
      exact ⟨.inr (.inr ⟨rfl, rfl⟩), by simp [intOf]⟩
    · go_wp2_with (go_at_call 60; refine (grow_any (na + nb) _ (by omega)).mono ?_; rintro e w1 ⟨v1, rfl, hown, hbel⟩)
      go_loopw [6, 27] (fun u i wr => ∃ n : Nat, Below w.heap.size w wr ∧ (i = .int .i64 0 ∧ n = 0 ∧ wr.ownsRow w.heap.size 3 1 u n (lits []) ∨ i = .int .i64 1 ∧ n = na ∧ wr.ownsRow w.heap.size 3 1 u n (lits la) ∨ i = .int .i64 2 ∧ n = na + nb ∧ wr.ownsRow w.heap.size 3 1 u n (lits (la ++ lb)))) (fun _ i _ => 2 - (intOf i).toNat)
      case atStart => exact ⟨0, hbel, .inl ⟨rfl, rfl, hown⟩⟩
      case round =>
        clear hown hbel
        obtain ⟨n, hbel, hrel⟩ := hrel
        have d0 := (hbel.cell (p := ⟨q, 0, none⟩) hq).trans hq0
        have d1 := (hbel.cell (p := ⟨q, 1, none⟩) hq).trans hq1
        have hbs := hbel.size
        rcases hrel with ⟨rfl, hn, hown⟩ | ⟨rfl, hn, hown⟩ | ⟨rfl, hn, hown⟩
        · obtain ⟨ao6, c6, rfl, _⟩ := owns_shape hown
          go_wp2_with ((with_reducible show wpList _ _ _ (⟨some 33, _, _, _, _, _⟩ :: _) _ _); go_must (refine wpList_append_ints rfl _ _ 22 rfl w.heap.size 3 i0 (.int .i64 0) und22 hi hz0 hz1 hz2 rfl _ n [] la rfl hown _ rfl (Ha.out.below hbel (Nat.le_refl _)) (by rw [← Hna.out]; omega) hbs ?_; intro v4 w4 hown4 hg4 hn4; simp only [Act.put, List.setIfInBounds_toArray, List.set_cons_zero, List.set_cons_succ]))
          refine ⟨⟨n + la.length, hbel.grown hg4 hbs (fun k hk => (hown.lt k hk).1), .inr (.inl ⟨rfl, by rw [← Hna.out]; omega, by simpa using hown4⟩)⟩, by simp [intOf]⟩
        · obtain ⟨ao6, c6, rfl, _⟩ := owns_shape hown
          go_wp2_with ((with_reducible show wpList _ _ _ (⟨some 33, _, _, _, _, _⟩ :: _) _ _); go_must (refine wpList_append_ints rfl _ _ 22 rfl w.heap.size 3 i0 (.int .i64 0) und22 hi hz0 hz1 hz2 rfl _ n la lb rfl hown _ rfl (Hb.out.below hbel (Nat.le_refl _)) (by rw [← Hnb.out]; omega) hbs ?_; intro v4 w4 hown4 hg4 hn4; simp only [Act.put, List.setIfInBounds_toArray, List.set_cons_zero, List.set_cons_succ]))
          refine ⟨⟨n + lb.length, hbel.grown hg4 hbs (fun k hk => (hown.lt k hk).1), .inr (.inr ⟨rfl, by rw [← Hnb.out]; omega, hown4⟩)⟩, by simp [intOf]⟩
        · subst hn
          go_wp2
          go_ret
          exact ⟨_, rfl, hown, hbel⟩
end Go.Proofs.YtmphnoabkmoafaaDoor
