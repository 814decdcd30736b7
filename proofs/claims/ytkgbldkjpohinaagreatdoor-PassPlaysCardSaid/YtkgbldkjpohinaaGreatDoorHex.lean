/- hash.Hex tells bytes as digits, as 'hexL' says. -/
import Derived.Test.YtkgbldkjpohinaaGreatDoorTypes
import Derived.Test.YtkgbldkjpohinaaGreatDoorBytes
import Derived.Deep.RegionLaw
import Derived.Lib.Hide
namespace Go.Proofs.YtkgbldkjpohinaaGreatDoor
open Go.RowKit
def hexd (i : Int) : Int := if i < 10 then 48 + i else 87 + i
def hexs : ByteArray := { data := #[48, 49, 50, 51, 52, 53, 54, 55, 56, 57, 97, 98, 99, 100, 101, 102] }
/-- The digits of bytes. -/
def hexL (l : List Int) : List Int := l.flatMap fun x => [hexd (x / 16), hexd (x % 16)]
theorem run_hexd {P : Program} (hu : P.underlying 9 = some .string) (i : Int) (h0 : 0 ≤ i) (h1 : i < 16) (w : World) : (Instr.index 9 (.string hexs) (.int .u8 i)).run P w = .ok (.int .u8 (hexd i)) w := by
  obtain ⟨n, rfl⟩ := Int.eq_ofNat_of_zero_le h0
  have : n < 16 := by omega
  have e : hexs[n]? = some (UInt8.ofNat (hexd n).toNat) := by
    match n, this with
    | 0, _ | 1, _ | 2, _ | 3, _ | 4, _ | 5, _ | 6, _ | 7, _ | 8, _ | 9, _ | 10, _ | 11, _ | 12, _ | 13, _ | 14, _ | 15, _ => rfl
  have e2 : 0 ≤ hexd n ∧ hexd n < 256 := by unfold hexd; split <;> omega
  simp [Instr.index, run_underlying hu, asIntOf, e]
  omega
theorem and15_all : ∀ k : Fin 256, bits .and .u8 (k.val : Int) 15 = (k.val : Int) % 16 := by decide +kernel
theorem and15 (x : Int) (h0 : 0 ≤ x) (h1 : x < 256) : bits .and .u8 x 15 = x % 16 := by
  have := and15_all ⟨x.toNat, by omega⟩
  simpa [Int.toNat_of_nonneg h0] using this
theorem hexL_take (l : List Int) (k : Nat) (h : k < l.length) : hexL (l.take (k + 1)) = hexL (l.take k) ++ [hexd (l.getD k 0 / 16), hexd (l.getD k 0 % 16)] := by
  rw [List.take_succ_eq_append_getElem h, hexL, List.flatMap_append]
  simp [hexL, List.getD, h]
theorem hexL_length (l : List Int) : (hexL l).length = 2 * l.length := by
  induction l with
  | nil => rfl
  | cons a l ih => simp only [hexL, List.flatMap_cons, List.length_append, List.length_cons, List.length_nil] at ih ⊢; omega
set_option maxRecDepth 100000 in
set_option maxHeartbeats 1000000 in
theorem hex_any (v : Value) (l : List Int) (w : World) (hB : BytesAt w v l) (ho : Octs l) (hlen : l.length ≤ 1099511627776) :
    Calls Tryz.prog 37 #[v] w fun e w' => e = .returned (.string (strOfNums (hexL l))) ∧ Below w.heap.size w w' := by
  obtain ⟨i0, hi, hz0, hz1, hz2⟩ := info_parts info5
  obtain ⟨ao, c, rfl⟩ := hB.shape
  go_enter Tryz.func37, Tryz.ntmps37
  go_wp2_with (first
    | ((with_reducible show wpList _ _ _ (⟨some 9, _, _, _, _, _⟩ :: _) _ _); go_must (refine wpList_make_own _ rfl _ _ 80 rfl w.heap.size 5 i0 (.int .u8 0) 1 und23 hi hz0 hz1 _ _ _ (2 * l.length) rfl rfl (by omega) (by rw [hz2]; omega) (by unfold maxLen; omega) (Nat.le_refl _) ?_); intro w1 hown1 hg1; simp only [Act.put, List.setIfInBounds_toArray, List.set_cons_zero, List.set_cons_succ]))
  have hb1 : Below w.heap.size w w1 := (Below.refl _ _).grown hg1 (Nat.le_refl _) (fun k hk => by cases hk)
  go_loopw [3, 12] (fun u i wr => ∃ k : Nat, k ≤ l.length ∧ i = .int .i64 k ∧ wr.ownsRow w.heap.size 5 1 u (2 * k) (octets (hexL (l.take k))) ∧ Below w.heap.size w wr) (fun _ i _ => l.length - (intOf i).toNat)
  case atStart => exact ⟨0, by omega, rfl, by simpa [hexL, octets] using hown1, hb1⟩
  case round =>
    clear hown1 hb1 hg1
    obtain ⟨k, hk, rfl, hown, hb⟩ := hrel
    obtain ⟨ao3, c3, rfl, hc3, _⟩ := owns_shape hown
    by_cases hlt : k < l.length
    · rcases hB with ⟨rfl, _⟩ | ⟨b, off, c', hv, h0, hc', hbl, hcell⟩
      · simp at hlt
      obtain ⟨rfl, rfl⟩ : ao = some ⟨b, off, none⟩ ∧ c = c' := by simpa using hv
      have hx := ho.getD k
      obtain ⟨x, hxe⟩ : ∃ x, x = l.getD k 0 := ⟨_, rfl⟩
      rw [← hxe] at hx
      have c0 : wr.cell? ⟨b, off + k, none⟩ = some (.int .u8 x) := by rw [hxe]; exact (hb.cell (p := ⟨b, off + k, none⟩) (by simp only; omega)).trans (hcell k hlt)
      have Hxe := Lib.hid hxe
      have q1 := run_hexd (P := Tryz.prog) und9 (x / 16) (by omega) (by omega)
      have q2 := run_hexd (P := Tryz.prog) und9 (x % 16) (by omega) (by omega)
      simp only [hexs] at q1 q2
      have q3 := and15 x (by omega) (by omega)
      clear hxe hcell hv
      go_wp2
      go_region_law (refine step_append_bytes rfl _ _ 80 rfl w.heap.size 5 i0 (.int .u8 0) und23 hi hz0 hz1 hz2 rfl _ _ (hexL (l.take k)) [hexd (x / 16), hexd (x % 16)] rfl (World.ownsRow.alloc (w := wr.drew) hown _) _ rfl (BytesAt.new wr.drew 5 _ (by simp)) (by simp; omega) (by have := hb.size; simp; omega) ?_; intro v8 w8 hown8 hg8 hn8)
      all_goals
        go_wp2
        go_roundw
        case rel =>
          have hbd : Below w.heap.size w wr.drew := hb.drew
          refine ⟨k + 1, by omega, by go_num, ?_, ?_⟩
          · rw [hexL_take l k hlt, ← Hxe.out, show 2 * (k + 1) = 2 * k + 2 by omega]; exact hown8
          · exact (hbd.alloc hbd.size _).grown hg8 (by have := hb.size; simp; omega) (fun k hk => (hown.lt k hk).1)
        case measure => first | (simp [intOf]; done) | (simp [intOf]; omega)
    · obtain rfl : k = l.length := by omega
      rw [List.take_length] at hown
      go_wp2_with ((with_reducible show wpList _ _ _ (⟨some 27, _, _, _, _, _⟩ :: _) _ _); go_must (refine wpList_convert_bytes rfl 80 9 5 _ rfl _ (hexL l) und23 und5 und9 rfl (BytesAt.of_owns hown) ?_); simp only [Act.put, List.setIfInBounds_toArray, List.set_cons_zero, List.set_cons_succ])
      go_ret
      exact ⟨rfl, hb⟩
end Go.Proofs.YtkgbldkjpohinaaGreatDoor
