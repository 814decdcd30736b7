/- The walks of HashStretch, HashIs and HashLengths. -/
import Derived.Test.YtdhdapnmjlklaaaRefSha
import Derived.Test.YtdhdapnmjlklaaaRefUnhex
import Derived.Deep.RegionWith
namespace Go.Proofs.Ytdhdapnmjlklaaa
open Go.RowKit
set_option maxRecDepth 100000 in
set_option maxHeartbeats 1000000 in
theorem hashStretch_any (salt pass : ByteArray) (times : Int) (w : World) (hs0 : salt.size ≤ maxLen) (hs1 : pass.size ≤ maxLen) (hs2 : salt.size + pass.size ≤ maxLen) :
    Calls Try.prog 5 #[.string salt, .string pass, .int .i64 times] w fun e w' => e = .returned (.bool true) ∧ Below w.heap.size w w' := by
  unfold maxLen at hs0 hs1 hs2
  by_cases h1 : salt.size + pass.size ≤ 300
  · by_cases h2 : times ≤ 30
    · go_enter Try.func5, Try.ntmps5
      go_wp2_with (first
        | (go_at_call 13; refine (stretch_any _ _ _ _ (by omega)).mono ?_; rintro e w3 ⟨rfl, hb3⟩)
        | (go_at_call 14; refine (refstretch_any _ _ _ _ (by omega)).mono ?_; rintro e w4 ⟨rfl, hb4⟩)
        | (go_at_call 10; refine (awake_any _).mono ?_; rintro e w5 ⟨rfl, hb5⟩))
      go_ret
      have := hb3.size
      have := hb4.size
      exact ⟨rfl, (hb3.trans (hb4.mono (by omega))).trans (hb5.mono (by omega))⟩
    · go_enter Try.func5, Try.ntmps5
      go_wp2_with (go_at_call 10; refine (awake_any _).mono ?_; rintro e w6 ⟨rfl, hb6⟩)
      go_ret
      exact ⟨rfl, hb6⟩
  · go_enter Try.func5, Try.ntmps5
    go_wp2_with (go_at_call 10; refine (awake_any _).mono ?_; rintro e w6 ⟨rfl, hb6⟩)
    go_ret
    exact ⟨rfl, hb6⟩
set_option maxRecDepth 100000 in
set_option maxHeartbeats 4000000 in
theorem hashIs_any (v : Value) (l : List Int) (w : World) (hB : BytesAt w v l) (ho : Octs l) (hlen : l.length ≤ maxLen) :
    Calls Try.prog 4 #[v] w fun e w' => e = .returned (.bool true) ∧ Below w.heap.size w w' := by
  unfold maxLen at hlen
  obtain ⟨ao, c, rfl⟩ := hB.shape
  by_cases h1 : l.length ≤ 1000
  · have hsz : (strOfNums l).size = l.length := strOfNums_size _
    have hbo : bytesOf (strOfNums l) = l := bytesOf_strOfNums ho
    have d1 : decide (1000 < (l.length : Int)) = false := by simp; omega
    have q11 := run_convert_bytesAt 23 9 5 und23 und5 und9 (w := w.drew) hB
    go_enter Try.func4, Try.ntmps4
    go_wp2
    go_region_with (first
      | (go_at_call 11; refine (sha_any _ l _ ?_ ho (by omega)).mono ?_; (exact hB); rintro e w1 ⟨v1, rfl, hown1, hb1⟩; have q9 := run_convert_bytesAt 23 9 5 und23 und5 und9 (BytesAt.of_owns hown1); have q11' := run_convert_bytesAt 23 9 5 und23 und5 und9 (BytesAt.below (w := w.drew) hB hb1 (Nat.le_refl _)))
      | (go_at_call 12; refine (refsha_any (strOfNums l) _ (by omega)).mono ?_; rintro e w4 ⟨v2, rfl, hB2, hb4⟩; rw [hbo] at hB2; have q13 := run_convert_bytesAt 23 9 5 und23 und5 und9 hB2; have q9' := run_convert_bytesAt 23 9 5 und23 und5 und9 ((BytesAt.of_owns hown1).below hb4 (Nat.le_refl _)))
      | (go_at_call 10; refine (awake_any _).mono ?_; rintro e w5 ⟨rfl, hb5⟩))
    all_goals
      go_wp2
      go_ret
      have hz1 := hb1.size
      have hz4 := hb4.size
      have hb1' : Below w.heap.size w w1 := ⟨hb1.os, hb1.tape, hb1.output, hb1.size, hb1.block⟩
      exact ⟨rfl, (hb1'.trans (hb4.mono (by simpa using hz1))).trans (hb5.mono (by simp at hz1; omega))⟩
  · have d1 : decide (1000 < (l.length : Int)) = true := by simp; omega
    go_enter Try.func4, Try.ntmps4
    go_wp2
    first | go_region_with (go_at_call 10; refine (awake_any _).mono ?_; rintro e w5 ⟨rfl, hb5⟩) | fail
    all_goals
      go_wp2
      go_ret
      exact ⟨rfl, ⟨hb5.os, hb5.tape, hb5.output, hb5.size, hb5.block⟩⟩
def fillL (b : Int) (m k : Nat) : List Int := (List.range m).map fun j => if j < k then b else 0
theorem fillL_length (b : Int) (m k : Nat) : (fillL b m k).length = m := by simp [fillL]
theorem fillL_set (b : Int) (m k : Nat) : (fillL b m k).set k b = fillL b m (k + 1) := by
  apply List.ext_getElem?
  intro j
  by_cases hj : j < m
  · by_cases e : k = j
    · subst e
      rw [List.getElem?_set_self (by rw [fillL_length]; exact hj)]
      simp [fillL, hj]
    · rw [List.getElem?_set_ne e]
      simp only [fillL, List.getElem?_map, List.getElem?_range hj, Option.map_some, Option.some.injEq]
      by_cases h : j < k
      · rw [if_pos h, if_pos (by omega)]
      · rw [if_neg h, if_neg (by omega)]
  · rw [List.getElem?_eq_none (by rw [List.length_set, fillL_length]; omega), List.getElem?_eq_none (by rw [fillL_length]; omega)]
theorem fillL_octs {b : Int} (h0 : 0 ≤ b) (h1 : b < 256) (m k : Nat) : Octs (fillL b m k) := fun x hx => by
  simp only [fillL, List.mem_map] at hx
  obtain ⟨j, _, rfl⟩ := hx
  split <;> omega
theorem fillL_zero (b : Int) (m : Nat) : octets (fillL b m 0) = (madeCells (Value.int .u8 0).cells (m * 1)).toList := by
  rw [Nat.mul_one, show (Value.int .u8 0).cells = #[.int .u8 0] from rfl, toList_madeCells_one]
  apply List.ext_getElem?
  intro j
  by_cases hj : j < m <;> simp [octets, fillL, hj]
set_option maxRecDepth 100000 in
set_option maxHeartbeats 4000000 in
theorem hashLengths_any (b n : Int) (w : World) (hb0 : 0 ≤ b) (hb1 : b < 256) :
    Calls Try.prog 3 #[.int .u8 b, .int .i64 n] w fun e w' => e = .returned (.bool true) ∧ Below w.heap.size w w' := by
  obtain ⟨i0, hi, hz0, hz1, hz2⟩ := info_parts info5
  by_cases hn0 : n < 0
  · go_enter Try.func3, Try.ntmps3
    go_wp2_with (go_at_call 10; refine (awake_any _).mono ?_; rintro e w6 ⟨rfl, hb6⟩)
    go_ret
    exact ⟨rfl, hb6⟩
  · by_cases hn2 : n > 200
    · go_enter Try.func3, Try.ntmps3
      go_wp2_with (go_at_call 10; refine (awake_any _).mono ?_; rintro e w6 ⟨rfl, hb6⟩)
      go_ret
      exact ⟨rfl, hb6⟩
    · obtain ⟨m, rfl⟩ := Int.eq_ofNat_of_zero_le (show 0 ≤ n by omega)
      have hm : m ≤ 200 := by omega
      go_enter Try.func3, Try.ntmps3
      go_wp2_with ((with_reducible show wpList _ _ _ (⟨some 15, _, _, _, _, _⟩ :: _) _ _); go_must (refine wpList_make_full _ rfl _ _ 23 rfl w.heap.size 5 i0 (.int .u8 0) 1 und23 hi hz0 hz1 _ _ _ _ m rfl rfl rfl rfl (by rw [hz2]; omega) (by unfold maxLen; omega) (Nat.le_refl _) ?_; intro w1 hown1 hg1; simp only [Act.put, List.setIfInBounds_toArray, List.set_cons_zero, List.set_cons_succ]))
      have hbb : Below w.heap.size w w1 := (Below.refl _ _).grown hg1 (Nat.le_refl _) (fun k hk => by cases hk)
      rw [← fillL_zero b m] at hown1
      clear hg1
      go_loopw [6, 18] (fun _ u wr => ∃ k : Nat, k ≤ m ∧ u = .int .i64 k ∧ wr.ownsRow w.heap.size 5 1 (.slice (some ⟨w.heap.size, 0, none⟩) m m) m (octets (fillL b m k)) ∧ Below w.heap.size w wr) (fun _ u _ => m - (intOf u).toNat)
      case atStart => exact ⟨0, by omega, rfl, hown1, hbb⟩
      case round =>
        clear hown1 hbb
        obtain ⟨k, hk, rfl, hown, hb⟩ := hrel
        by_cases hlt : k < m
        · have c0 : wr.cell? ⟨w.heap.size, k, none⟩ = some (.int .u8 ((fillL b m k).getD k 0)) := by rw [hown.cellAt k (by omega), octets_at (by rw [fillL_length]; exact hlt)]
          have f0 := hown.frozenAt k
          have hst := hown.stored k (.int .u8 b)
          rw [octets_set, fillL_set] at hst
          go_wp2
          go_roundw
          case rel => exact ⟨k + 1, by omega, by go_num, hst.1, hb.setCell (Nat.le_refl _) _⟩
          case measure => first | (simp [intOf]; done) | (simp [intOf]; omega)
        · obtain rfl : k = m := by omega
          obtain ⟨l, hl⟩ : ∃ l, l = fillL b k k := ⟨_, rfl⟩
          have hll : l.length = k := by rw [hl, fillL_length]
          have ho : Octs l := by rw [hl]; exact fillL_octs hb0 hb1 k k
          rw [← hl] at hown
          have hsz : (strOfNums l).size = l.length := strOfNums_size _
          have hbo : bytesOf (strOfNums l) = l := bytesOf_strOfNums ho
          have hB0 : BytesAt wr.drew (.slice (some ⟨w.heap.size, 0, none⟩) k k) l := BytesAt.of_owns (w := wr) hown
          have q30 := run_convert_bytesAt 23 9 5 und23 und5 und9 hB0
          have hlb : l.length ≤ 1099511627776 := by omega
          have hsb : (strOfNums l).size ≤ 1099511627776 := by omega
          have Hll := Lib.hid hll
          clear hl hll hsz hown
          go_wp2
          go_region_with (first
            | (go_at_call 11; first | (refine (sha_any _ l _ ?_ ho hlb).mono ?_; (exact hB0); rintro e w1 ⟨v1, rfl, hown1, hb1⟩; have q28 := run_convert_bytesAt 23 9 5 und23 und5 und9 (BytesAt.of_owns hown1); have q30' := run_convert_bytesAt 23 9 5 und23 und5 und9 (BytesAt.below hB0 hb1 (Nat.le_refl _))) | (refine (sha_any _ l _ ?_ ho hlb).mono ?_; (exact hB4); rintro e w7 ⟨v7, rfl, hown7, hb7⟩; obtain ⟨ao7, c7, rfl, _, _⟩ := owns_shape hown7))
            | (go_at_call 12; refine (refsha_any (strOfNums l) _ hsb).mono ?_; rintro e w4 ⟨v2, rfl, hB2, hb4⟩; rw [hbo] at hB2; have q32 := run_convert_bytesAt 23 9 5 und23 und5 und9 hB2; have q28' := run_convert_bytesAt 23 9 5 und23 und5 und9 ((BytesAt.of_owns hown1).below hb4 (Nat.le_refl _)); have hB4 := (BytesAt.below hB0 hb1 (Nat.le_refl _)).below hb4 (Nat.le_refl _))
            | (go_at_call 10; refine (awake_any _).mono ?_; rintro e w5 ⟨rfl, hb5⟩))
          all_goals
            go_wp2
            go_ret
            have hz0 := hb.size
            have hz1 := hb1.size
            have hz4 := hb4.size
            have hz7 := hb7.size
            have hb1' : Below w.heap.size w w1 := hb.trans ((⟨hb1.os, hb1.tape, hb1.output, hb1.size, hb1.block⟩ : Below wr.heap.size wr w1).mono hz0)
            simp at hz1
            exact ⟨rfl, ((hb1'.trans (hb4.mono (by omega))).trans (hb7.mono (by omega))).trans (hb5.mono (by omega))⟩
end Go.Proofs.Ytdhdapnmjlklaaa
