/- A set may have just as many tags as the bound says: the walk of the law answers true. -/
import Derived.Test.YtgkpdkdkpmkgdaaBoundsTail
namespace Go.Proofs.Ytgkpdkdkpmkgdaa
open Go.RowKit
set_option maxRecDepth 100000 in
set_option maxHeartbeats 800000 in
theorem labelBounds_any (x y z : Int) (sw : Bool) (w : World) : Calls Try.prog 3 #[.int .i64 x, .int .i64 y, .int .i64 z, .bool sw] w fun e w' => e = .returned (.bool true) ∧ Below w.heap.size w w' := by
  obtain ⟨i0, hi, hz0, hz1, hz2⟩ := info_parts info3
  have r1 := Int.lt_tmod_of_pos x (show (0 : Int) < 40 by omega)
  have r1' := Int.tmod_lt_of_pos x (show (0 : Int) < 40 by omega)
  obtain ⟨n, hn, hn2⟩ : ∃ n : Nat, Int.tmod x 40 % 40 = n ∧ n ≤ 39 := ⟨(Int.tmod x 40 % 40).toNat, by omega, by omega⟩
  have by' := bits_and_bound y 16777215 (by omega) (by omega)
  obtain ⟨f, hf, hf1, hf2⟩ : ∃ f : Int, bits .and .i64 y 16777215 = f - 1 ∧ 1 ≤ f ∧ f ≤ 16777216 := ⟨bits .and .i64 y 16777215 + 1, by omega, by omega, by omega⟩
  clear by'
  go_enter Try.func3, Try.ntmps3
  go_wp2
  go_loopw [9, 10] (fun u i wr => ∃ k : Nat, k ≤ n ∧ i = .int .i64 k ∧ wr.ownsRow w.heap.size 3 1 u k (lits (upL f k)) ∧ Below w.heap.size w wr) (fun _ i _ => n - (intOf i).toNat)
  case atStart => exact ⟨0, by omega, rfl, by simpa [lits, upL] using World.ownsRow_nil _ _ _ _, Below.refl _ _⟩
  case round =>
    obtain ⟨k, hk, rfl, hown, hbel⟩ := hrel
    obtain ⟨ao9, c9, rfl, _⟩ := owns_shape hown
    have hbs := hbel.size
    by_cases hlt : k < n
    · have q1 : decide ((k : Int) < n) = true := by simp; omega
      go_wp2_with ((with_reducible show wpList _ _ _ (⟨some 34, _, _, _, _, _⟩ :: _) _ _); go_must (refine wpList_append_ints rfl _ _ 22 rfl w.heap.size 3 i0 (.int .i64 0) und22 hi hz0 hz1 hz2 rfl _ k (upL f k) [f + 3 * (k : Int)] rfl (hown.alloc _) _ rfl (IntsAt.new wr 3 [f + 3 * (k : Int)] (by simp)) (by simp; omega) (by simp; omega) ?_; intro v4 w4 hown4 hg4 hn4; simp only [Act.put, List.setIfInBounds_toArray, List.set_cons_zero, List.set_cons_succ]))
      refine ⟨⟨k + 1, by omega, by go_num, hown4, (hbel.alloc hbs _).grown hg4 (by simp; omega) (fun k hk => (hown.lt k hk).1)⟩, by simp [intOf]; omega⟩
    · obtain rfl : k = n := by omega
      have hset := upL_set f k hf1 (by omega)
      have hat := IntsAt.of_owns hown
      rw [show Value.slice ao9 k c9 = .slice ao9 k c9 from rfl] at hat
      have hs0 := set_any _ (upL f k) wr hat (by rw [upL_length]; omega)
      have hs1 := fun (W : World) (h : IntsAt W (.slice ao9 k c9) (upL f k)) => may_any (.slice none 0 0) (.slice ao9 k c9) [] (upL f k) W (IntsAt.nil _) h (by simp) (by rw [upL_length]; omega)
      rw [hset] at hs0 hs1
      rw [show setL [] = true from rfl, Bool.true_and] at hs1
      have Hs1 := Lib.hid hs1
      have Hset := Lib.hid hset
      have Hown := Lib.hid hown
      have Hat := Lib.hid hat
      clear hs1 hset hat hown
      have hg : decide ((k : Int) ≤ 16) = decide (k ≤ 16) := by simp; omega
      have Hg := Lib.hid hg
      clear hg
      obtain ⟨good, hgood⟩ : ∃ g, g = decide (k ≤ 16) := ⟨_, rfl⟩
      have Hgood := Lib.hid hgood
      rw [← hgood] at hs0
      have hgd : decide ((k : Int) ≤ 16) = good := by rw [hgood]; simp; omega
      clear hgood
      by_cases h2 : k < 2
      · have q2 : decide ((k : Int) < 2) = true := by simp; omega
        have hg1 : Hid (good = true) := by rw [show Hid (good = true) = (good = true) from rfl, Hgood.out]; simp; omega
        obtain rfl := hg1.out
        clear h2
        go_wp2_with (first
          | (go_at_call_of 9 (Value.slice ao9 k c9); refine hs0.mono ?_; rintro e w1 ⟨rfl, rfl⟩)
          | (go_at_call 10; refine (Hs1.out _ (Hat.out)).mono ?_; rintro e w2 ⟨rfl, hb2⟩; rw [← Hgood.out])
          | (go_at_call_of 9 (Value.slice (some ⟨w2.heap.size, 0, none⟩) 1 1); refine (set_any _ [0] _ (zero_next w2 0) (by simp)).mono ?_; rintro e wa ⟨rfl, rfl⟩; rw [show setL [0] = false by decide]; have fl1 : True := trivial)
          | (go_at_call 9; have fl2 := fl1; clear fl1; refine (set_any _ [2147483648] _ (one_next w2 0 2147483648) (by simp)).mono ?_; rintro e wb ⟨rfl, rfl⟩; rw [show setL [2147483648] = false by decide])
          | (go_at_call 9; have fl3 := fl2; clear fl2; refine (set_any _ [2147483647] _ (two_next w2 0 2147483648 2147483647) (by simp)).mono ?_; rintro e wc ⟨rfl, rfl⟩; rw [show setL [2147483647] = true by decide])
          | (go_at_call 11; refine (awake3_any _).mono ?_; rintro e w3 ⟨rfl, hb3⟩))
        go_ret
        have k1 := hbel.trans (hb2.mono hbs)
        have k2 := k1.trans ((three_below w2 (.cells #[.int .i64 0] 3) (.cells #[.int .i64 2147483648] 3) (.cells #[.int .i64 2147483647] 3)).mono k1.size)
        exact ⟨rfl, k2.trans (hb3.mono k2.size)⟩
      · have q2 : decide ((k : Int) < 2) = false := by simp; omega
        obtain ⟨g, cap, hv9, hgb, hgl, hnc, hcm, hcell⟩ := owns_cells Hown.out (by omega)
        obtain ⟨rfl, rfl⟩ : ao9 = some ⟨g, 0, none⟩ ∧ c9 = cap := by simpa using hv9
        have Hcell := Lib.hid hcell
        clear hcell hv9
        have r2 := Int.lt_tmod_of_pos z (show (0 : Int) < k by omega)
        have r2' := Int.tmod_lt_of_pos z (show (0 : Int) < k by omega)
        obtain ⟨j, hj, hjn⟩ : ∃ j : Nat, Int.tmod (Int.tmod z k + k) k = j ∧ j < k := by
          have h3 := Int.tmod_nonneg (k : Int) (show 0 ≤ Int.tmod z k + k by omega)
          have h4 := Int.tmod_lt_of_pos (Int.tmod z k + k) (show (0 : Int) < k by omega)
          exact ⟨(Int.tmod (Int.tmod z k + k) k).toNat, by omega, by omega⟩
        have hn0 : ¬ ((k : Int) = 0) := by omega
        go_wp2_with (first
          | (go_at_call_of 9 (Value.slice (some ⟨g, 0, none⟩) k c9); refine hs0.mono ?_; rintro e w1 ⟨rfl, rfl⟩)
          | (go_at_call 10; refine (Hs1.out _ (Hat.out)).mono ?_; rintro e w2 ⟨rfl, hb2⟩; rw [← Hgood.out]))
        have k2 := hbel.trans (hb2.mono hbs)
        have hx : w1.cell? ⟨g, j, none⟩ = some (.int .i64 (f + 3 * (j : Int))) := by
          rw [Hcell.out j (by rw [upL_length]; exact hjn), upL_getD f k j hjn]
        have hs2 := hb2.size
        have Hat2 : Hid (∀ W, Below w1.heap.size w1 W → IntsAt W (.slice (some ⟨g, 0, none⟩) k c9) (upL f k)) := fun W h => Hat.out.below h (Nat.le_refl _)
        have x0 : w2.cell? ⟨g, j, none⟩ = some (.int .i64 (f + 3 * (j : Int))) := (hb2.cell (p := ⟨g, j, none⟩) hgl).trans hx
        have x1 : ∀ o, (w2.alloc o).cell? ⟨g, j, none⟩ = some (.int .i64 (f + 3 * (j : Int))) := fun o => (World.cell?_alloc_lt w2 o ⟨g, j, none⟩ (by simp only; omega)).trans x0
        have x2 : ∀ o o', ((w2.alloc o).alloc o').cell? ⟨g, j, none⟩ = some (.int .i64 (f + 3 * (j : Int))) := fun o o' => (World.cell?_alloc_lt _ o' ⟨g, j, none⟩ (by simp; omega)).trans (x1 o)
        go_region_law (first
          | (refine step_append_ints rfl _ _ 22 rfl w2.heap.size 3 i0 (.int .i64 0) und22 hi hz0 hz1 hz2 rfl _ _ (upL f k) [f + 3 * (j : Int)] rfl (hown5.alloc _) _ rfl (IntsAt.new w5 3 [f + 3 * (j : Int)] (by simp)) (by simp only [upL_length, List.length_cons, List.length_nil]; omega) (by have h5 := hB5.size; simp only [World.size_alloc]; omega) ?_; intro v6 w6 hown6 hg6 hn6; have hd : IntsAt w6 v6 (dupL f k j) := (by have := IntsAt.of_owns hown6; rw [dupL, upL_getD f k j hjn]; exact this); have hB6 : Below w2.heap.size w2 w6 := (hB5.alloc hB5.size _).grown hg6 (by have := hB5.size; simp; omega) (fun q hq => (hown5.lt q hq).1))
          | (refine step_append_ints rfl _ _ 22 rfl w2.heap.size 3 i0 (.int .i64 0) und22 hi hz0 hz1 hz2 rfl _ _ (upL f k) [f + 3 * (j : Int)] rfl hown5 _ rfl i5 (by simp only [upL_length, List.length_cons, List.length_nil]; omega) hB5.size ?_; intro v6 w6 hown6 hg6 hn6; have hd : IntsAt w6 v6 (dupL f k j) := (by have := IntsAt.of_owns hown6; rw [dupL, upL_getD f k j hjn]; exact this); have hB6 : Below w2.heap.size w2 w6 := hB5.grown hg6 hB5.size (fun q hq => (hown5.lt q hq).1))
          | (refine step_append_ints rfl _ _ 22 rfl w2.heap.size 3 i0 (.int .i64 0) und22 hi hz0 hz1 hz2 rfl _ 0 [] (upL f k) rfl (World.ownsRow_made w2 #[] 0 (Nat.le_refl _) (by decide) rfl : World.ownsRow _ w2.heap.size 3 1 _ 0 (lits [])) _ rfl (Hat2.out _ (by have h := hb2.alloc hs2 (.cells #[] 3); exact ⟨h.os, h.tape, h.output, h.size, h.block⟩)) (by rw [upL_length]; omega) (by first | (simp; done) | (simp; omega)) ?_; intro v5 w5 hown5 hg5 hn5; have hB5 : Below w2.heap.size w2 w5 := (by refine Below.grown ?_ hg5 ?_ (fun q hq => Nat.le_of_eq (Option.some.inj hq)); (have h := (Below.refl w2.heap.size w2).alloc (Nat.le_refl _) (.cells #[] 3); exact ⟨h.os, h.tape, h.output, h.size, h.block⟩); (first | (simp; done) | (simp; omega))); have x5 : w5.cell? ⟨g, j, none⟩ = some (.int .i64 (f + 3 * (j : Int))) := (hB5.cell (p := ⟨g, j, none⟩) (by simp only; omega)).trans x0)
          | (refine step_append_ints rfl _ _ 22 rfl w2.heap.size 3 i0 (.int .i64 0) und22 hi hz0 hz1 hz2 rfl _ 0 [] (upL f k) rfl ((World.ownsRow_made w2 #[] 0 (Nat.le_refl _) (by decide) rfl : World.ownsRow _ w2.heap.size 3 1 _ 0 (lits [])).alloc (.cells #[.int .i64 (f + 3 * (j : Int))] 3)) _ rfl (Hat2.out _ (by have h := (hb2.alloc hs2 (.cells #[] 3)).alloc (by simp; omega) (.cells #[.int .i64 (f + 3 * (j : Int))] 3); exact ⟨h.os, h.tape, h.output, h.size, h.block⟩)) (by rw [upL_length]; omega) (by first | (simp; done) | (simp; omega)) ?_; intro v5 w5 hown5 hg5 hn5; have hB5 : Below w2.heap.size w2 w5 := (by refine Below.grown ?_ hg5 ?_ (fun q hq => Nat.le_of_eq (Option.some.inj hq)); (have h := ((Below.refl w2.heap.size w2).alloc (Nat.le_refl _) (.cells #[] 3)).alloc (by simp) (.cells #[.int .i64 (f + 3 * (j : Int))] 3); exact ⟨h.os, h.tape, h.output, h.size, h.block⟩); (first | (simp; done) | (simp; omega))); have i5 : IntsAt w5 (.slice (some ⟨w2.heap.size + 1, 0, none⟩) 1 1) [f + 3 * (j : Int)] := IntsAt.grown (l := [f + 3 * (j : Int)]) hg5 (one_at w2 _) (by simp) (fun e => by have e' : w2.heap.size + 1 = w2.heap.size := Option.some.inj e; omega))
          | (refine step_append_ints rfl _ _ 22 rfl w2.heap.size 3 i0 (.int .i64 0) und22 hi hz0 hz1 hz2 rfl _ 0 [] (upL f k) rfl (made_at w2 (.cells #[.int .i64 (f + 3 * (j : Int))] 3)) _ rfl (Hat2.out _ (by have h := (hb2.alloc hs2 (.cells #[.int .i64 (f + 3 * (j : Int))] 3)).alloc (by simp; omega) (.cells #[] 3); exact ⟨h.os, h.tape, h.output, h.size, h.block⟩)) (by rw [upL_length]; omega) (by first | (simp; done) | (simp; omega)) ?_; intro v5 w5 hown5 hg5 hn5; have hB5 : Below w2.heap.size w2 w5 := (by refine Below.grown ?_ hg5 ?_ (fun q hq => Nat.le_trans (Nat.le_succ _) (Nat.le_of_eq (Option.some.inj hq))); (have h := ((Below.refl w2.heap.size w2).alloc (Nat.le_refl _) (.cells #[.int .i64 (f + 3 * (j : Int))] 3)).alloc (by simp) (.cells #[] 3); exact ⟨h.os, h.tape, h.output, h.size, h.block⟩); (first | (simp; done) | (simp; omega))); have i5 : IntsAt w5 (.slice (some ⟨w2.heap.size, 0, none⟩) 1 1) [f + 3 * (j : Int)] := IntsAt.grown (l := [f + 3 * (j : Int)]) hg5 (zero_at w2 _) (by simp) (fun e => by have e' : w2.heap.size = w2.heap.size + 1 := Option.some.inj e; omega))
          | fail)
        all_goals
          have k6 : Below w.heap.size w w6 := k2.trans (hB6.mono k2.size)
          have hat6 := Hat2.out w6 (hb2.trans (hB6.mono hs2))
          have hs6 : Hid (setL (upL f k) = good) := Hset.out.trans Hgood.out.symm
          have h2k : 2 ≤ k := by omega
          go_step
          go_step
          simp only [Act.put, List.getElem_toArray, List.getElem_cons_succ, List.getElem_cons_zero, List.setIfInBounds_toArray, List.set_cons_zero, List.set_cons_succ]
          apply bounds_tail (k := k) (j := j) (h2 := h2k) (hk := hn2) (hjn := hjn) (Hs := hs6) (Hat6 := hat6) (hd := hd) (hB := k6)
end Go.Proofs.Ytgkpdkdkpmkgdaa
