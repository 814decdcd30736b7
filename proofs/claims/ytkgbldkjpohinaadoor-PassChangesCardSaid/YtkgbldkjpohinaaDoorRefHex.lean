/- lazaretref2.Hex tells bytes as digits. -/
import Derived.Test.YtkgbldkjpohinaaDoorHex
namespace Go.Proofs.YtkgbldkjpohinaaDoor
open Go.RowKit
set_option maxRecDepth 100000 in
set_option maxHeartbeats 1000000 in
theorem refhex_any (v : Value) (l : List Int) (w : World) (hB : BytesAt w v l) (ho : Octs l) (hlen : l.length ≤ 1099511627776) :
    Calls Tryd.prog 17 #[v] w fun e w' => e = .returned (.string (strOfNums (hexL l))) ∧ Below w.heap.size w w' := by
  obtain ⟨i0, hi, hz0, hz1, hz2⟩ := info_parts info5
  obtain ⟨ao, c, rfl⟩ := hB.shape
  go_enter Tryd.func17, Tryd.ntmps17
  go_wp2
  go_loopw [3, 4] (fun u i wr => ∃ k : Nat, k ≤ l.length ∧ i = .int .i64 k ∧ wr.ownsRow w.heap.size 5 1 u (2 * k) (octets (hexL (l.take k))) ∧ Below w.heap.size w wr) (fun _ i _ => l.length - (intOf i).toNat)
  case atStart => exact ⟨0, by omega, rfl, by simpa [hexL, octets] using World.ownsRow_nil _ _ _ _, Below.refl _ _⟩
  case round =>
    obtain ⟨k, hk, rfl, hown, hb⟩ := hrel
    obtain ⟨ao3, c3, rfl, hc3, _⟩ := owns_shape hown
    by_cases hlt : k < l.length
    · rcases hB with ⟨rfl, _⟩ | ⟨b, off, c', hv, h0, hc', hbl, hcell⟩
      · simp at hlt
      obtain ⟨rfl, rfl⟩ : ao = some ⟨b, off, none⟩ ∧ c = c' := by simpa using hv
      have hx := ho.getD k
      obtain ⟨x, hxe⟩ : ∃ x, x = l.getD k 0 := ⟨_, rfl⟩
      rw [← hxe] at hx
      have c0 : wr.cell? ⟨b, off + k, none⟩ = some (.int .u8 x) := by rw [hxe]; exact (hb.cell (p := ⟨b, off + k, none⟩) (by simp only; omega)).trans (hcell k hlt)
      have Hxe := Lib.hid hxe
      have q1 := run_hexd (P := Tryd.prog) und9 (x / 16) (by omega) (by omega)
      have q2 := run_hexd (P := Tryd.prog) und9 (x % 16) (by omega) (by omega)
      simp only [hexs] at q1 q2
      have q3 := and15 x (by omega) (by omega)
      clear hxe hcell hv
      go_wp2
      go_region_law (refine step_append_bytes rfl _ _ 48 rfl w.heap.size 5 i0 (.int .u8 0) und23 hi hz0 hz1 hz2 rfl _ _ (hexL (l.take k)) [hexd (x / 16), hexd (x % 16)] rfl (World.ownsRow.alloc (w := wr.drew) hown _) _ rfl (BytesAt.new wr.drew 5 _ (by simp)) (by simp; omega) (by have := hb.size; simp; omega) ?_; intro v8 w8 hown8 hg8 hn8)
      all_goals
        go_wp2
        go_roundw
        case rel =>
          have hbd : Below w.heap.size w wr.drew := hb.drew
          refine ⟨k + 1, by omega, by go_num, ?_, ?_⟩
          · rw [hexL_take l k hlt, ← Hxe.out, show 2 * (k + 1) = 2 * k + 2 by omega]; exact hown8
          · exact (hbd.alloc hbd.size _).grown hg8 (by have := hb.size; simp; omega) (fun k hk => (hown.lt k hk).1)
        case measure => first | (simp [intOf]; done) | (simp [intOf]; omega)
    · obtain rfl : k = l.length := by omega
      rw [List.take_length] at hown
      go_wp2_with ((with_reducible show wpList _ _ _ (⟨some 27, _, _, _, _, _⟩ :: _) _ _); go_must (refine wpList_convert_bytes rfl 48 9 5 _ rfl _ (hexL l) und23 und5 und9 rfl (BytesAt.of_owns hown) ?_); simp only [Act.put, List.setIfInBounds_toArray, List.set_cons_zero, List.set_cons_succ])
      go_ret
      exact ⟨rfl, hb⟩
end Go.Proofs.YtkgbldkjpohinaaDoor
