/- Who fails as often as may be is locked out: the walk of the law answers true. -/
import Derived.Test.YtdhdapnmjlklaaaBookAwake
import Derived.Test.YtdhdapnmjlklaaaRefSha
namespace Go.Proofs.Ytdhdapnmjlklaaa
open Go.RowKit Go.Maps
theorem bits_and_bound (x m : Int) (h0 : 0 ≤ m) (h1 : m < 9223372036854775808) : 0 ≤ bits .and .i64 x m ∧ bits .and .i64 x m ≤ m := by
  have hu : bits .and .i64 x m = IntKind.i64.wrap (((x % 2 ^ IntKind.i64.bits).toNat &&& (m % 2 ^ IntKind.i64.bits).toNat : Nat) : Int) := by unfold bits; simp
  have e : (m % 2 ^ IntKind.i64.bits).toNat = m.toNat := by
    rw [show (2 : Int) ^ IntKind.i64.bits = 18446744073709551616 from rfl]; omega
  rw [hu, e]
  have := @Nat.and_le_right (x % 2 ^ IntKind.i64.bits).toNat m.toNat
  generalize (x % 2 ^ IntKind.i64.bits).toNat &&& m.toNat = z at *
  have hz : IntKind.i64.wrap (z : Int) = z := by
    simp [IntKind.wrap, IntKind.signed, IntKind.bits]
    omega
  rw [hz]; omega
theorem refhash_any (salt pass : ByteArray) (times : Int) (w : World) (hs : salt.size + pass.size ≤ 1073741824) :
    Calls Try.prog 14 #[.string salt, .string pass, .int .i64 times] w fun e w' => e = .returned (.string (hashOf salt pass times)) ∧ Below w.heap.size w w' := refstretch_any salt pass times w hs
theorem salt_low : Lows ⟨#[115, 97, 108, 116]⟩ := lows_of (l := [115, 97, 108, 116]) (by decide)
/-- Two texts of one salt have two hashes: a fact that no tactic looks into. -/
structure HNe : Prop where
  out : hashOf ⟨#[115, 97, 108, 116]⟩ ⟨#[119, 114, 111, 110, 103]⟩ 2 ≠ hashOf ⟨#[115, 97, 108, 116]⟩ ⟨#[114, 105, 103, 104, 116]⟩ 2
/-- The book with ann alone. -/
def annD : DataW Unit := (DataW.map [] : DataW Unit).put (.string (⟨#[97, 110, 110]⟩ : ByteArray).data.toList) (entD ⟨#[115, 97, 108, 116]⟩ 2 (hashOf ⟨#[115, 97, 108, 116]⟩ ⟨#[114, 105, 103, 104, 116]⟩ 2) 7)
set_option maxRecDepth 100000 in
set_option maxHeartbeats 4000000 in
theorem passLocks_any (x y f z : Int) (w : World) : Calls Try.prog 9 #[.int .i64 x, .int .i64 y, .int .i64 f, .int .i64 z] w fun e w' => e = .returned (.bool true) ∧ Below w.heap.size w w' := by
  have bx := bits_and_bound x 7 (by omega) (by omega)
  have bY := bits_and_bound y 255 (by omega) (by omega)
  have bf := bits_and_bound f 15 (by omega) (by omega)
  have bz := bits_and_bound z 511 (by omega) (by omega)
  obtain ⟨m, hm, hm1, hm2⟩ : ∃ m : Nat, bits .and .i64 x 7 = (m : Int) - 1 ∧ 1 ≤ m ∧ m ≤ 8 := ⟨(bits .and .i64 x 7 + 1).toNat, by omega, by omega, by omega⟩
  obtain ⟨r, hr, hr1, hr2⟩ : ∃ r : Nat, bits .and .i64 y 255 = (r : Int) - 1 ∧ 1 ≤ r ∧ r ≤ 256 := ⟨(bits .and .i64 y 255 + 1).toNat, by omega, by omega, by omega⟩
  obtain ⟨F, hF, hF2⟩ : ∃ F : Nat, bits .and .i64 f 15 = F ∧ F ≤ 15 := ⟨(bits .and .i64 f 15).toNat, by omega, by omega⟩
  obtain ⟨v, hv, hv2⟩ : ∃ v : Nat, bits .and .i64 z 511 = v ∧ v ≤ 511 := ⟨(bits .and .i64 z 511).toNat, by omega, by omega⟩
  have ml : (⟨#[97, 110, 110]⟩ : ByteArray).size ≤ maxLen := by unfold maxLen; decide
  clear bx bY bf bz
  by_cases heq : hashOf ⟨#[115, 97, 108, 116]⟩ ⟨#[114, 105, 103, 104, 116]⟩ 2 = hashOf ⟨#[115, 97, 108, 116]⟩ ⟨#[119, 114, 111, 110, 103]⟩ 2
  · have hbe : ((hashOf ⟨#[115, 97, 108, 116]⟩ ⟨#[114, 105, 103, 104, 116]⟩ 2).toList == (hashOf ⟨#[115, 97, 108, 116]⟩ ⟨#[119, 114, 111, 110, 103]⟩ 2).toList) = true := by rw [heq]; simp
    clear heq
    go_enter Try.func9, Try.ntmps9
    go_wp2_with (first
      | (go_at_call 19; go_loud (refine (st_new m r _ (by omega) (by omega) (by omega) (by omega)).mono ?_; rintro e w1 ⟨b, mu, mf, rfl, h⟩))
      | (go_at_call 21; go_loud (refine (st_add ⟨#[97, 110, 110]⟩ ⟨#[115, 97, 108, 116]⟩ ⟨#[114, 105, 103, 104, 116]⟩ 2 7 h (by omega) ann_low (by decide) (by decide) salt_low (by decide) (by decide) (by decide) (by omega) (by omega) (by omega) (by omega)).mono ?_; rintro e w2 ⟨rfl, h2⟩; rw [(one_user _ _ _ _ _).2] at h2; rw [(one_user _ ⟨#[115, 97, 108, 116]⟩ ⟨#[114, 105, 103, 104, 116]⟩ 2 7).1]; replace h := h2; clear h2))
      | (go_at_call_of 14 (Value.string { data := #[114, 105, 103, 104, 116] }); refine (refhash_any ⟨#[115, 97, 108, 116]⟩ ⟨#[114, 105, 103, 104, 116]⟩ 2 _ (by decide)).mono ?_; rintro e w3 ⟨rfl, hb3⟩; replace h := h.keep hb3)
      | (go_at_call_of 14 (Value.string { data := #[119, 114, 111, 110, 103] }); refine (refhash_any ⟨#[115, 97, 108, 116]⟩ ⟨#[119, 114, 111, 110, 103]⟩ 2 _ (by decide)).mono ?_; rintro e w4 ⟨rfl, hb4⟩; replace h := h.keep hb4)
      | (go_at_call 23; refine (awake15_any _).mono ?_; rintro e wC ⟨rfl, hbC⟩))
    go_ret
    exact ⟨rfl, h.below.trans (hbC.mono h.below.size)⟩
  · have hbe : ((hashOf ⟨#[115, 97, 108, 116]⟩ ⟨#[114, 105, 103, 104, 116]⟩ 2).toList == (hashOf ⟨#[115, 97, 108, 116]⟩ ⟨#[119, 114, 111, 110, 103]⟩ 2).toList) = false := beq_false_of heq
    have Hne : HNe := ⟨Ne.symm heq⟩
    clear heq
    go_enter Try.func9, Try.ntmps9
    go_wp2_with (first
      | (go_at_call 19; go_loud (refine (st_new m r _ (by omega) (by omega) (by omega) (by omega)).mono ?_; rintro e w1 ⟨b, mu, mf, rfl, h⟩))
      | (go_at_call 21; go_loud (refine (st_add ⟨#[97, 110, 110]⟩ ⟨#[115, 97, 108, 116]⟩ ⟨#[114, 105, 103, 104, 116]⟩ 2 7 h (by omega) ann_low (by decide) (by decide) salt_low (by decide) (by decide) (by decide) (by omega) (by omega) (by omega) (by omega)).mono ?_; rintro e w2 ⟨rfl, h2⟩; rw [(one_user _ _ _ _ _).2] at h2; rw [(one_user _ ⟨#[115, 97, 108, 116]⟩ ⟨#[114, 105, 103, 104, 116]⟩ 2 7).1]; replace h := h2; clear h2))
      | (go_at_call_of 14 (Value.string { data := #[114, 105, 103, 104, 116] }); refine (refhash_any ⟨#[115, 97, 108, 116]⟩ ⟨#[114, 105, 103, 104, 116]⟩ 2 _ (by decide)).mono ?_; rintro e w3 ⟨rfl, hb3⟩; replace h := h.keep hb3)
      | (go_at_call_of 14 (Value.string { data := #[119, 114, 111, 110, 103] }); refine (refhash_any ⟨#[115, 97, 108, 116]⟩ ⟨#[119, 114, 111, 110, 103]⟩ 2 _ (by decide)).mono ?_; rintro e w4 ⟨rfl, hb4⟩; replace h := h.keep hb4))
    have hA : Maps.has annD (.string (⟨#[97, 110, 110]⟩ : ByteArray).data.toList) = true := has_one _ _
    have hatA : annD.atKey (.string (⟨#[97, 110, 110]⟩ : ByteArray).data.toList) noU = entD ⟨#[115, 97, 108, 116]⟩ 2 (hashOf ⟨#[115, 97, 108, 116]⟩ ⟨#[114, 105, 103, 104, 116]⟩ 2) 7 := at_one _ _ _
    replace h : BookSt w _ b mu mf m r 1 0 annD (.map []) := h
    go_loopw [11] (fun u wr => ∃ (i nf : Nat) (Df : DataW Unit) (t : Int), i ≤ F ∧ nf ≤ i ∧ u = .int .i64 i ∧ (0 < i → t = 1000) ∧ Df.atKey (.string (⟨#[97, 110, 110]⟩ : ByteArray).data.toList) noF = failD (min i m : Nat) t ∧ BookSt w wr b mu mf m r 1 nf annD Df) (fun u _ => F - (intOf u).toNat)
    case atStart => exact ⟨0, 0, .map [], 0, by omega, by omega, rfl, by omega, at_none _ _, h⟩
    case round =>
      clear h
      obtain ⟨i, nf, Df, t, hi, hnf, rfl, ht, hat, h⟩ := hrel
      have hIs := h.hf.isMap
      by_cases hlt : i < F
      · have q1 : decide ((i : Int) < F) = true := by simp; omega
        have Hlt := Lib.hid hlt
        clear hlt
        by_cases him : i < m
        · have q2 : decide ((i : Int) < m) = true := by simp; omega
          have q3 : decide ((i : Int) ≥ m) = false := by simp; omega
          rw [show min i m = i by omega] at hat
          have Him := Lib.hid him
          clear him
          go_wp2_with (go_at_call 22; go_loud (refine (st_wrong ⟨#[97, 110, 110]⟩ ⟨#[119, 114, 111, 110, 103]⟩ 1000 _ _ _ _ _ _ h ml (by decide) (by omega) hA hatA hat (by decide) Hne.out (by have := Him.out; omega) (by omega) (by omega)).mono ?_; rintro e w5 ⟨rfl, h5⟩))
          go_roundw
          case rel =>
            have e1 : ((min (i + 1) m : Nat) : Int) = (i : Int) + 1 := by have := Him.out; omega
            exact ⟨i + 1, nf + 1, Df.put (.string (⟨#[97, 110, 110]⟩ : ByteArray).data.toList) (failD ((i : Int) + 1) 1000), 1000, by have := Hlt.out; omega, by omega, by go_num, fun _ => rfl, by rw [e1]; exact atKey_put_same hIs (keyS _) _ _, h5⟩
          case measure => have := Hlt.out; first | (simp [intOf]; done) | (simp [intOf]; omega)
        · have q2 : decide ((i : Int) < m) = false := by simp; omega
          have q3 : decide ((i : Int) ≥ m) = true := by simp; omega
          rw [show min i m = m by omega, ht (by omega)] at hat
          have Him := Lib.hid him
          clear him
          go_wp2_with (go_at_call 22; go_loud (refine (st_locked ⟨#[97, 110, 110]⟩ ⟨#[119, 114, 111, 110, 103]⟩ 1000 _ _ _ _ _ _ h ml (by decide) (by omega) hatA hat (by omega) (by omega) (by omega) (by omega)).mono ?_; rintro e w5 ⟨rfl, h5⟩))
          go_roundw
          case rel => exact ⟨i + 1, nf, Df, 1000, by have := Hlt.out; omega, by omega, by go_num, fun _ => rfl, by rw [show min (i + 1) m = m by have := Him.out; omega]; exact hat, h5⟩
          case measure => have := Hlt.out; first | (simp [intOf]; done) | (simp [intOf]; omega)
      · obtain rfl : i = F := by omega
        have hF1 : IsMap (Df.del (.string (⟨#[97, 110, 110]⟩ : ByteArray).data.toList)) := hIs.del _
        have hF0 : (Df.del (.string (⟨#[97, 110, 110]⟩ : ByteArray).data.toList)).atKey (.string (⟨#[97, 110, 110]⟩ : ByteArray).data.toList) noF = failD 0 0 := atKey_del_same _
        have hFw : ((Df.del (.string (⟨#[97, 110, 110]⟩ : ByteArray).data.toList)).put (.string (⟨#[97, 110, 110]⟩ : ByteArray).data.toList) (failD (0 + 1) (1000 + (v : Int)))).atKey (.string (⟨#[97, 110, 110]⟩ : ByteArray).data.toList) noF = failD (0 + 1) (1000 + (v : Int)) := atKey_put_same hF1 (keyS _) _ _
        by_cases hlk : m ≤ i ∧ v < r
        · rw [show min i m = m by omega, ht (by omega)] at hat
          obtain ⟨q2, q3⟩ := hlk
          have Hlk := Lib.hid q3
          clear hlt hi
          go_wp2_with (first
            | (go_at_call 22; go_loud (refine (st_locked ⟨#[97, 110, 110]⟩ ⟨#[114, 105, 103, 104, 116]⟩ (1000 + (v : Int)) _ _ _ _ _ _ h ml (by decide) (by omega) hatA hat (by omega) (by have := Hlk.out; omega) (by omega) (by omega)).mono ?_; rintro e w5 ⟨rfl, h5⟩))
            | (go_at_call 23; refine (awake15_any _).mono ?_; rintro e wC ⟨rfl, hbC⟩))
          go_ret
          exact ⟨rfl, h5.below.trans (hbC.mono h5.below.size)⟩
        · have q0 : ¬ m ≤ i ∧ i < m ∨ m ≤ i ∧ ¬ v < r ∧ t = 1000 ∧ r ≤ v := by
            by_cases h1 : m ≤ i
            · exact .inr ⟨h1, by omega, ht (by omega), by omega⟩
            · exact .inl ⟨h1, by omega⟩
          have hm' : ((m : Int) == 1) = true ∧ m = 1 ∨ ((m : Int) == 1) = false ∧ 1 < m := by
            by_cases h1 : m = 1
            · exact .inl ⟨by simp; omega, h1⟩
            · exact .inr ⟨by simp; omega, by omega⟩
          clear hlk hlt hi
          rcases q0 with ⟨q2, q7⟩ | ⟨q2, q3, q7⟩ <;> rcases hm' with ⟨q4, q5⟩ | ⟨q4, q5⟩
          all_goals
            have Hq5 := Lib.hid q5
            have Hc := Lib.hid q7
            clear q5 q7
            go_wp2_with (first
              | (go_at_call 22; first
                | (refine (st_right ⟨#[97, 110, 110]⟩ ⟨#[114, 105, 103, 104, 116]⟩ (1000 + (v : Int)) _ _ _ _ _ _ h6 ml (by decide) (by omega) hA hatA hFw (by decide) rfl (by have := Hq5.out; omega)).mono ?_; rintro e w7 ⟨rfl, h7⟩)
                | (refine (st_locked ⟨#[97, 110, 110]⟩ ⟨#[114, 105, 103, 104, 116]⟩ (1000 + (v : Int)) _ _ _ _ _ _ h6 ml (by decide) (by omega) hatA hFw (by have := Hq5.out; omega) (by omega) (by omega) (by omega)).mono ?_; rintro e w7 ⟨rfl, h7⟩)
                | (refine (st_wrong ⟨#[97, 110, 110]⟩ ⟨#[119, 114, 111, 110, 103]⟩ (1000 + (v : Int)) _ _ _ _ _ _ h5 ml (by decide) (by omega) hA hatA hF0 (by decide) Hne.out (by omega) (by omega) (by omega)).mono ?_; rintro e w6 ⟨rfl, h6⟩)
                | (refine (st_right ⟨#[97, 110, 110]⟩ ⟨#[114, 105, 103, 104, 116]⟩ (1000 + (v : Int)) _ _ _ _ _ _ h ml (by decide) (by omega) hA hatA hat (by decide) rfl (by have := Hc.out; omega)).mono ?_; rintro e w5 ⟨rfl, h5⟩)
                | (refine (st_free ⟨#[97, 110, 110]⟩ ⟨#[114, 105, 103, 104, 116]⟩ (1000 + (v : Int)) _ _ _ _ _ _ h ml (by decide) (by omega) hA hatA hat (by decide) rfl (by have := Hc.out; omega) (by have := Hc.out; omega) (by have := Hc.out; omega) (by have := Hc.out; omega)).mono ?_; rintro e w5 ⟨rfl, h5⟩))
              | (go_at_call 23; refine (awake15_any _).mono ?_; rintro e wC ⟨rfl, hbC⟩))
            go_ret
            exact ⟨rfl, h7.below.trans (hbC.mono h7.below.size)⟩
end Go.Proofs.Ytdhdapnmjlklaaa
