/- The walk of HashMany: it answers true, and writes into new memory alone. -/
import Derived.Test.YtdhdapnmjlklaaaStretch
namespace Go.Proofs.Ytdhdapnmjlklaaa
open Go.RowKit
theorem and63 (x : Int) : ∃ n : Nat, bits .and .i64 x 63 = n ∧ n ≤ 63 := by
  refine ⟨(BitVec.ofInt 64 x &&& 63#64).toNat, ?_, ?_⟩
  · show IntKind.i64.wrap ((BitVec.ofInt 64 x &&& BitVec.ofInt 64 63).toNat : Int) = _
    have e : BitVec.ofInt 64 63 = 63#64 := by decide
    rw [e]
    have h : (BitVec.ofInt 64 x &&& 63#64).toNat ≤ 63 := by
      rw [BitVec.toNat_and]; exact Nat.and_le_right
    generalize (BitVec.ofInt 64 x &&& 63#64).toNat = n at h
    simp [IntKind.wrap, IntKind.bits, IntKind.signed]
    split <;> omega
  · rw [BitVec.toNat_and]; exact Nat.and_le_right
set_option maxRecDepth 100000 in
set_option maxHeartbeats 1000000 in
theorem hashMany_any (salt pass : ByteArray) (times : Int) (w : World) (hs0 : salt.size ≤ maxLen) (hs1 : pass.size ≤ maxLen) (hs2 : salt.size + pass.size ≤ maxLen) :
    Calls Try.prog 6 #[.string salt, .string pass, .int .i64 times] w fun e w' => e = .returned (.bool true) ∧ Below w.heap.size w w' := by
  unfold maxLen at hs0 hs1 hs2
  obtain ⟨n, hn, hn2⟩ := and63 times
  by_cases h1 : salt.size + pass.size ≤ 100
  · by_cases h2 : n ≤ 50
    · go_enter Try.func6, Try.ntmps6
      go_wp2_with (first
        | ((with_reducible show wpList _ _ _ (⟨some 26, _, _, _, _, _⟩ :: _) _ _); go_must (refine wpList_string_bytes rfl 9 23 5 _ rfl _ und9 und23 und5 rfl ?_; intro v1 w1 hB1 hb1; simp only [Act.put, List.setIfInBounds_toArray, List.set_cons_zero, List.set_cons_succ]; rw [bytesOf_append, bytesOf_append, bytesOf_nul] at hB1))
        | (go_at_call 11; refine (sha_any _ _ _ hB1 (((bytesOf_octs _).append octs_nul).append (bytesOf_octs _)) (by simp only [List.length_append, bytesOf_length]; simp; omega)).mono ?_; rintro e w2 ⟨v2, rfl, hown2, hb2⟩))
      have hb : Below w.heap.size w w2 := hb1.trans (hb2.mono hb1.size)
      have hB2 : BytesAt w2 v2 (stretchL (bytesOf salt) (bytesOf pass) 0) := BytesAt.of_owns hown2
      clear hown2 hb2 hB1 hb1
      go_loopw [7, 8] (fun u i wr => ∃ k : Nat, k ≤ n ∧ i = .int .i64 k ∧ BytesAt wr u (stretchL (bytesOf salt) (bytesOf pass) k) ∧ Below w.heap.size w wr) (fun _ i _ => n - (intOf i).toNat)
      case atStart => exact ⟨0, by omega, rfl, hB2, hb⟩
      case round =>
        clear hB2 hb
        obtain ⟨k, hk, rfl, hB, hb⟩ := hrel
        obtain ⟨ao, c, rfl⟩ := hB.shape
        by_cases hlt : k < n
        · have hsz : (strOfNums (stretchL (bytesOf salt) (bytesOf pass) k)).size = 32 := by rw [strOfNums_size, stretchL_length]
          go_wp2_with (first
            | ((with_reducible show wpList _ _ _ (⟨some 34, _, _, _, _, _⟩ :: _) _ _); go_must (refine wpList_convert_bytes rfl 23 9 5 _ rfl _ _ und23 und5 und9 rfl hB ?_); simp only [Act.put, List.setIfInBounds_toArray, List.set_cons_zero, List.set_cons_succ])
            | ((with_reducible show wpList _ _ _ (⟨some 39, _, _, _, _, _⟩ :: _) _ _); go_must (refine wpList_string_bytes rfl 9 23 5 _ rfl _ und9 und23 und5 rfl ?_; intro v3 w3 hB3 hb3; simp only [Act.put, List.setIfInBounds_toArray, List.set_cons_zero, List.set_cons_succ]; rw [bytesOf_append, bytesOf_append, bytesOf_strOfNums (stretchL_octs _ _ _)] at hB3))
            | (go_at_call 11; refine (sha_any _ _ _ hB3 (str_octs _ _ _ (stretchL_octs _ _ _)) (by simp only [List.length_append, bytesOf_length, stretchL_length]; omega)).mono ?_; rintro e w4 ⟨v4, rfl, hown4, hb4⟩))
          go_roundw
          case rel =>
            exact ⟨k + 1, by omega, by go_num, BytesAt.of_owns hown4, (hb.trans (hb3.mono hb.size)).trans (hb4.mono (by have := hb.size; have := hb3.size; omega))⟩
          case measure => first | (simp [intOf]; done) | (simp [intOf]; omega)
        · obtain rfl : k = n := by omega
          have hk2 : (min (max (k : Int) 0) 1000).toNat = k := by omega
          have Hk := Lib.hid hk2
          clear hk2
          go_wp2_with (first
            | (go_at_call 13; refine (stretch_any _ _ _ _ (by omega)).mono ?_; rintro e w3 ⟨rfl, hb3⟩; rw [Hk.out])
            | (go_at_call 15; refine (hex_any _ _ _ (hB.below hb3 (Nat.le_refl _)) (stretchL_octs _ _ _) (by rw [stretchL_length]; omega)).mono ?_; rintro e w5 ⟨rfl, hb5⟩)
            | (go_at_call 10; refine (awake_any _).mono ?_; rintro e w6 ⟨rfl, hb6⟩))
          go_ret
          exact ⟨rfl, ((hb.trans (hb3.mono hb.size)).trans (hb5.mono (by have := hb.size; have := hb3.size; omega))).trans (hb6.mono (by have := hb.size; have := hb3.size; have := hb5.size; omega))⟩
    · go_enter Try.func6, Try.ntmps6
      go_wp2_with (go_at_call 10; refine (awake_any _).mono ?_; rintro e w6 ⟨rfl, hb6⟩)
      go_ret
      exact ⟨rfl, hb6⟩
  · go_enter Try.func6, Try.ntmps6
    go_wp2_with (go_at_call 10; refine (awake_any _).mono ?_; rintro e w6 ⟨rfl, hb6⟩)
    go_ret
    exact ⟨rfl, hb6⟩
end Go.Proofs.Ytdhdapnmjlklaaa
