/- The law HashHex walked. -/
import Derived.Test.YtdhdapnmjlklaaaRefHex
import Derived.Test.YtdhdapnmjlklaaaRefUnhex
import Derived.Test.YtdhdapnmjlklaaaStretch
import Derived.Deep.RegionWith
namespace Go.Proofs.Ytdhdapnmjlklaaa
open Go.RowKit
theorem hexd_bound {x : Int} (h0 : 0 ≤ x) (h1 : x < 16) : 0 ≤ hexd x ∧ hexd x < 256 := by unfold hexd; split <;> omega
theorem hexL_bytes {l : List Int} (h : Octs l) : Octs (hexL l) := fun x hx => by
  simp only [hexL, List.mem_flatMap] at hx
  obtain ⟨a, ha, hx⟩ := hx
  have hb := h a ha
  have h1 := hexd_bound (x := a / 16) (by omega) (by omega)
  have h2 := hexd_bound (x := a % 16) (by omega) (by omega)
  simp only [List.mem_cons, List.not_mem_nil, or_false] at hx
  rcases hx with rfl | rfl
  · exact h1
  · exact h2
set_option maxRecDepth 100000 in
set_option maxHeartbeats 1000000 in
theorem hashHex_any (v : Value) (l : List Int) (s : ByteArray) (w : World) (hB : BytesAt w v l) (ho : Octs l) (hlen : l.length ≤ 1048576) (hs : s.size ≤ 1048576) :
    Calls Try.prog 7 #[v, .string s] w fun e w' => e = .returned (.bool true) ∧ Below w.heap.size w w' := by
  obtain ⟨ao, c, rfl⟩ := hB.shape
  have hbo : bytesOf (strOfNums (hexL l)) = hexL l := bytesOf_strOfNums (hexL_bytes ho)
  have hsz : (strOfNums (hexL l)).size = 2 * l.length := by rw [← bytesOf_length, hbo, hexL_length]
  go_enter Try.func7, Try.ntmps7
  go_wp2_with (first
    | (go_at_call 15; first | (refine (hex_any _ l _ hB ho (by omega)).mono ?_; rintro e w1 ⟨rfl, hb1⟩) | (refine (hex_any _ l _ hB' ho (by omega)).mono ?_; rintro e w5 ⟨rfl, hb5⟩))
    | (go_at_call_of 16 (Value.string s); refine (unhex_any s _ (by omega)).mono ?_; rintro e w3 ⟨v2, rfl, hB2, hb3⟩)
    | (go_at_call_of 16 (Value.string (strOfNums (hexL l))); refine (unhex_any (strOfNums (hexL l)) _ (by omega)).mono ?_; rintro e w2 ⟨v1, rfl, hB1, hb2⟩; rw [hbo, unhexL_hexL l ho, Option.getD_some] at hB1; rw [hbo, unhexL_hexL l ho, Option.isSome_some])
    | (go_at_call 17; refine (refunhex_any s _ (by omega)).mono ?_; rintro e w4 ⟨v3, rfl, hB3, hb4⟩; have hz1 := hb1.size; have hz2 := hb2.size; have hz3 := hb3.size; have hz4 := hb4.size; have hB1' := ((hB1.below hb3 (Nat.le_refl _)).below hb4 (by omega)); have hB' := (hB.below (((hb1.trans (hb2.mono (by omega))).trans (hb3.mono (by omega))).trans (hb4.mono (by omega))) (Nat.le_refl _)); have hB2' := hB2.below hb4 (Nat.le_refl _); have q30 := run_convert_bytesAt 23 9 5 und23 und5 und9 hB1'; have q32 := run_convert_bytesAt 23 9 5 und23 und5 und9 hB')
    | (go_at_call 18; refine (refhex_any _ l _ ?_ ho (by omega)).mono ?_; (exact hB'.below hb5 (Nat.le_refl _)); rintro e w6 ⟨rfl, hb6⟩; have hz5 := hb5.size; have q44 := run_convert_bytesAt 23 9 5 und23 und5 und9 ((hB2'.below hb5 (Nat.le_refl _)).below hb6 (by omega)); have q46 := run_convert_bytesAt 23 9 5 und23 und5 und9 ((hB3.below hb5 (Nat.le_refl _)).below hb6 (by omega)))
    | (go_at_call 10; refine (awake_any _).mono ?_; rintro e w7 ⟨rfl, hb7⟩))
  go_ret
  have k1 := hb1.trans (hb2.mono (by omega))
  have k2 := (k1.trans (hb3.mono (by omega))).trans (hb4.mono (by omega))
  have k3 := (k2.trans (hb5.mono (by omega))).trans (hb6.mono (by omega))
  have := hb6.size
  exact ⟨rfl, k3.trans (hb7.mono (by omega))⟩
end Go.Proofs.Ytdhdapnmjlklaaa
