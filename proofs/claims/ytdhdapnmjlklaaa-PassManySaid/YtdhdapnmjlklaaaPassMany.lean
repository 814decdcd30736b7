/- As many users as may be: the walk of the law answers true. -/
import Derived.Test.YtdhdapnmjlklaaaNames
namespace Go.Proofs.Ytdhdapnmjlklaaa
open Go.RowKit Go.Maps
set_option maxRecDepth 100000 in
theorem name_any (i : Nat) (w : World) (hi : i < 12) : Calls Try.prog 20 #[.int .i64 i] w fun e w' => e = .returned (.string (nm i)) ∧ Below w.heap.size w w' := by
  have hb : Below w.heap.size w (w.alloc (Obj.cells #[Value.int IntKind.u8 (97 + (i : Int))] 5)) := (Below.refl _ _).alloc (Nat.le_refl _) _
  have hm : (i : Int) % 256 = i := by omega
  have hB : BytesAt (w.alloc (Obj.cells #[Value.int IntKind.u8 (97 + (i : Int))] 5)) (.slice (some ⟨w.heap.size, 0, none⟩) 1 1) [97 + (i : Int)] := BytesAt.new w 5 [97 + (i : Int)] (by simp)
  go_enter Try.func20, Try.ntmps20
  go_wp2_with ((with_reducible show wpList _ _ _ (⟨some 7, _, _, _, _, _⟩ :: _) _ _); go_must (refine wpList_convert_bytes rfl 23 9 5 _ rfl _ _ und23 und5 und9 rfl hB ?_); simp only [Act.put, List.setIfInBounds_toArray, List.set_cons_zero, List.set_cons_succ])
  go_ret
  exact ⟨rfl, hb⟩
set_option maxRecDepth 100000 in
set_option maxHeartbeats 2000000 in
theorem passMany_any (x y : Int) (w : World) : Calls Try.prog 8 #[.int .i64 x, .int .i64 y] w fun e w' => e = .returned (.bool true) ∧ Below w.heap.size w w' := by
  have r1 := Int.lt_tmod_of_pos x (show (0 : Int) < 12 by omega)
  have r1' := Int.tmod_lt_of_pos x (show (0 : Int) < 12 by omega)
  obtain ⟨n, hn, hn1, hn2⟩ : ∃ n : Nat, Int.tmod x 12 % 12 + 1 = n ∧ 1 ≤ n ∧ n ≤ 12 := ⟨(Int.tmod x 12 % 12 + 1).toNat, by omega, by omega, by omega⟩
  have r2 := Int.lt_tmod_of_pos y (show (0 : Int) < n by omega)
  have r2' := Int.tmod_lt_of_pos y (show (0 : Int) < n by omega)
  obtain ⟨j, hj, hjn⟩ : ∃ j : Nat, Int.tmod (Int.tmod y n + n) n = j ∧ j < n := by
    have h3 := Int.tmod_nonneg (n : Int) (show 0 ≤ Int.tmod y n + n by omega)
    have h4 := Int.tmod_lt_of_pos (Int.tmod y n + n) (show (0 : Int) < n by omega)
    exact ⟨(Int.tmod (Int.tmod y n + n) n).toNat, by omega, by omega⟩
  have hn0 : ¬ ((n : Int) = 0) := by omega
  go_enter Try.func8, Try.ntmps8
  go_wp2_with (go_at_call 19; refine (st_new 3 10 _ (by omega) (by omega) (by omega) (by omega)).mono ?_; rintro e w1 ⟨b, mu, mf, rfl, h1⟩)
  go_loopw [8] (fun u wr => ∃ i nu : Nat, i ≤ n ∧ nu ≤ i ∧ u = .int .i64 i ∧ BookSt w wr b mu mf 3 10 nu 0 (Dm (min i 9)) (.map [])) (fun u _ => n - (intOf u).toNat)
  case atStart => exact ⟨0, 0, by omega, by omega, rfl, h1⟩
  case round =>
    clear h1
    obtain ⟨i, nu, hi, hnu, rfl, h⟩ := hrel
    by_cases hlt : i < n
    · have q1 : decide ((i : Int) < n) = true := by simp; omega
      have hi12 : i < 12 := by omega
      have h9 : (decide ((i : Int) < 9) = true ∧ decide ((i : Int) ≥ 9) = false ∧ codeAt i = 0) ∨ (decide ((i : Int) < 9) = false ∧ decide ((i : Int) ≥ 9) = true ∧ codeAt i = 65) := by
        by_cases h : i < 9
        · exact .inl ⟨by simp; omega, by simp; omega, if_pos h⟩
        · exact .inr ⟨by simp; omega, by simp; omega, if_neg h⟩
      have hsz := nm_size hi12
      have Hlt := Lib.hid hlt
      clear hlt
      rcases h9 with ⟨q2, q3, q4⟩ | ⟨q2, q3, q4⟩
      all_goals
        go_wp2_with (first
          | (go_at_call 20; refine (name_any i _ hi12).mono ?_; rintro e wA ⟨rfl, hbA⟩; replace h := h.keep hbA)
          | (go_at_call 21; refine (st_add (nm i) ⟨#[115]⟩ (pw i) 0 ((i : Int) + 1) h (by omega) (nm_low hi12) (by rw [nm_size hi12]; omega) (by rw [nm_size hi12]; omega) s_low (by decide) (by decide) (by rw [pw_size ⟨i, hi12⟩]; omega) (by omega) (by omega) (by omega) (by omega)).mono ?_; rintro e wB ⟨rfl, hB⟩; rw [add_to hi12] at hB; rw [add_code hi12, q4]))
        go_roundw
        case rel => exact ⟨i + 1, nu + 1, by omega, by omega, by go_num, hB⟩
        case measure => first | (simp [intOf]; done) | (simp [intOf]; omega)
    · obtain rfl : i = n := by omega
      have hi9 : min i 9 ≤ 12 := by omega
      have hj12 : j < 12 := by omega
      have hszj := nm_size hj12
      have h9 : decide ((j : Int) < 9) = true ∨ decide ((j : Int) < 9) = false := by cases decide ((j : Int) < 9) <;> simp
      have Hjn := Lib.hid hjn
      clear hjn
      rcases h9 with q2 | q2
      · have hj9 : j < 9 := by simp at q2; omega
        have hth := add_there Hjn.out hn2 hj9
        have hto : addTo (Dm (min i 9)) (nm j) ⟨#[115]⟩ ⟨#[113]⟩ 0 1 = Dm (min i 9) := by rw [addTo, hth, if_neg (by decide)]
        clear hj9
        go_wp2_with (first
          | (go_at_call 20; refine (name_any j _ hj12).mono ?_; rintro e wA ⟨rfl, hbA⟩; replace h := h.keep hbA)
          | (go_at_call 21; go_loud (refine (st_add (nm j) ⟨#[115]⟩ ⟨#[113]⟩ 0 1 h (by omega) (nm_low hj12) (by rw [nm_size hj12]; omega) (by rw [nm_size hj12]; omega) s_low (by decide) (by decide) (by decide) (by omega) (by omega) (by omega) (by omega)).mono ?_; rintro e wB ⟨rfl, hB⟩; rw [hto] at hB; rw [hth]; replace h := hB; clear hB)))
        clear hth hto
        go_loopw [11] (fun u wr => ∃ k nu nf : Nat, k ≤ i ∧ nf ≤ k ∧ u = .int .i64 k ∧ BookSt w wr b mu mf 3 10 nu nf (Dm (min i 9)) (Fm (k - 9))) (fun u _ => i - (intOf u).toNat)
        case atStart => exact ⟨0, _, 0, by omega, by omega, rfl, h⟩
        case round =>
          clear h
          obtain ⟨k, nu, nf, hki, hnf, rfl, h⟩ := hrel
          by_cases hlt : k < i
          · have q1 : decide ((k : Int) < i) = true := by simp; omega
            have hk12 : k < 12 := by omega
            have hsz := nm_size hk12
            have hml : (nm k).size ≤ maxLen := by rw [hsz]; unfold maxLen; decide
            have hpw : (pw k).size ≤ 64 := by rw [pw_size ⟨k, hk12⟩]; omega
            have Hlt := Lib.hid hlt
            have hU := has_Dm hk12 _ hi9
            clear hlt
            by_cases h9 : k < 9
            · have q3 : decide ((k : Int) < 9) = true := by simp; omega
              have q4 : decide ((k : Int) ≥ 9) = false := by simp; omega
              have hF : Fm (k - 9) = .map [] := by rw [show k - 9 = 0 by omega]; rfl
              have hF2 : Fm (k + 1 - 9) = .map [] := by rw [show k + 1 - 9 = 0 by omega]; rfl
              rw [hF] at h
              have hatU := at_Dm hk12 _ hi9 (by have := Hlt.out; omega)
              rw [decide_eq_true (by have := Hlt.out; omega)] at hU
              clear h9
              go_wp2_with (first
                | (go_at_call 20; refine (name_any k _ hk12).mono ?_; rintro e wA ⟨rfl, hbA⟩; replace h := h.keep hbA)
                | (go_at_call 22; go_loud (refine (st_right (nm k) (pw k) 0 _ _ _ _ 0 0 h hml hpw (by omega) hU hatU (at_none _ _) (by decide) rfl (by omega)).mono ?_; rintro e wB ⟨rfl, hB⟩; rw [del_none, ← hF2] at hB)))
              go_roundw
              case rel => exact ⟨k + 1, nu, nf, by have := Hlt.out; omega, by omega, by go_num, hB⟩
              case measure => have := Hlt.out; first | (simp [intOf]; done) | (simp [intOf]; omega)
            · have q3 : decide ((k : Int) < 9) = false := by simp; omega
              have q4 : decide ((k : Int) ≥ 9) = true := by simp; omega
              have hF : (Fm (k - 9)).put (nk k) (failD 1 0) = Fm (k + 1 - 9) := by rw [show k + 1 - 9 = (k - 9) + 1 by omega, Fm, show 9 + (k - 9) = k by omega]
              rw [decide_eq_false (by omega)] at hU
              have hFh := has_Fm hk12 (k - 9) (by omega)
              rw [decide_eq_false (by omega)] at hFh
              have hFs := size_Fm (k - 9) (by omega)
              have Hk9 := Lib.hid h9
              clear h9
              go_wp2_with (first
                | (go_at_call 20; refine (name_any k _ hk12).mono ?_; rintro e wA ⟨rfl, hbA⟩; replace h := h.keep hbA)
                | (go_at_call 22; go_loud (refine (st_none (nm k) (pw k) 0 h hml hpw (by omega) hU hFh (by omega) (by omega) (by omega)).mono ?_; rintro e wB ⟨rfl, hB⟩; replace hB := hF ▸ hB)))
              go_roundw
              case rel => exact ⟨k + 1, nu, nf + 1, by have := Hlt.out; omega, by omega, by go_num, hB⟩
              case measure => have := Hlt.out; first | (simp [intOf]; done) | (simp [intOf]; omega)
          · obtain rfl : k = i := by omega
            go_wp2_with (go_at_call 23; refine (awake15_any _).mono ?_; rintro e wC ⟨rfl, hbC⟩)
            go_ret
            exact ⟨rfl, h.below.trans (hbC.mono h.below.size)⟩
      · go_wp2
        go_loopw [11] (fun u wr => ∃ k nu nf : Nat, k ≤ i ∧ nf ≤ k ∧ u = .int .i64 k ∧ BookSt w wr b mu mf 3 10 nu nf (Dm (min i 9)) (Fm (k - 9))) (fun u _ => i - (intOf u).toNat)
        case atStart => exact ⟨0, _, 0, by omega, by omega, rfl, h⟩
        case round =>
          clear h
          obtain ⟨k, nu, nf, hki, hnf, rfl, h⟩ := hrel
          by_cases hlt : k < i
          · have q1 : decide ((k : Int) < i) = true := by simp; omega
            have hk12 : k < 12 := by omega
            have hsz := nm_size hk12
            have hml : (nm k).size ≤ maxLen := by rw [hsz]; unfold maxLen; decide
            have hpw : (pw k).size ≤ 64 := by rw [pw_size ⟨k, hk12⟩]; omega
            have Hlt := Lib.hid hlt
            have hU := has_Dm hk12 _ hi9
            clear hlt
            by_cases h9 : k < 9
            · have q3 : decide ((k : Int) < 9) = true := by simp; omega
              have q4 : decide ((k : Int) ≥ 9) = false := by simp; omega
              have hF : Fm (k - 9) = .map [] := by rw [show k - 9 = 0 by omega]; rfl
              have hF2 : Fm (k + 1 - 9) = .map [] := by rw [show k + 1 - 9 = 0 by omega]; rfl
              rw [hF] at h
              have hatU := at_Dm hk12 _ hi9 (by have := Hlt.out; omega)
              rw [decide_eq_true (by have := Hlt.out; omega)] at hU
              clear h9
              go_wp2_with (first
                | (go_at_call 20; refine (name_any k _ hk12).mono ?_; rintro e wA ⟨rfl, hbA⟩; replace h := h.keep hbA)
                | (go_at_call 22; go_loud (refine (st_right (nm k) (pw k) 0 _ _ _ _ 0 0 h hml hpw (by omega) hU hatU (at_none _ _) (by decide) rfl (by omega)).mono ?_; rintro e wB ⟨rfl, hB⟩; rw [del_none, ← hF2] at hB)))
              go_roundw
              case rel => exact ⟨k + 1, nu, nf, by have := Hlt.out; omega, by omega, by go_num, hB⟩
              case measure => have := Hlt.out; first | (simp [intOf]; done) | (simp [intOf]; omega)
            · have q3 : decide ((k : Int) < 9) = false := by simp; omega
              have q4 : decide ((k : Int) ≥ 9) = true := by simp; omega
              have hF : (Fm (k - 9)).put (nk k) (failD 1 0) = Fm (k + 1 - 9) := by rw [show k + 1 - 9 = (k - 9) + 1 by omega, Fm, show 9 + (k - 9) = k by omega]
              rw [decide_eq_false (by omega)] at hU
              have hFh := has_Fm hk12 (k - 9) (by omega)
              rw [decide_eq_false (by omega)] at hFh
              have hFs := size_Fm (k - 9) (by omega)
              have Hk9 := Lib.hid h9
              clear h9
              go_wp2_with (first
                | (go_at_call 20; refine (name_any k _ hk12).mono ?_; rintro e wA ⟨rfl, hbA⟩; replace h := h.keep hbA)
                | (go_at_call 22; go_loud (refine (st_none (nm k) (pw k) 0 h hml hpw (by omega) hU hFh (by omega) (by omega) (by omega)).mono ?_; rintro e wB ⟨rfl, hB⟩; replace hB := hF ▸ hB)))
              go_roundw
              case rel => exact ⟨k + 1, nu, nf + 1, by have := Hlt.out; omega, by omega, by go_num, hB⟩
              case measure => have := Hlt.out; first | (simp [intOf]; done) | (simp [intOf]; omega)
          · obtain rfl : k = i := by omega
            go_wp2_with (go_at_call 23; refine (awake15_any _).mono ?_; rintro e wC ⟨rfl, hbC⟩)
            go_ret
            exact ⟨rfl, h.below.trans (hbC.mono h.below.size)⟩
end Go.Proofs.Ytdhdapnmjlklaaa
