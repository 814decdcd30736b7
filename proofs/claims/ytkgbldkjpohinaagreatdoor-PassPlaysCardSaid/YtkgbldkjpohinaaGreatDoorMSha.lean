/- lazaretref2.Hex tells bytes as digits. lazaretref2.SHA256 and lazaretref2.Stretch. -/
import Derived.Test.YtkgbldkjpohinaaGreatDoorHex
import Derived.Test.YtkgbldkjpohinaaGreatDoorRefSum
import Derived.Test.YtkgbldkjpohinaaGreatDoorStretch
namespace Go.Proofs.YtkgbldkjpohinaaGreatDoor
open Go.RowKit
set_option maxRecDepth 100000 in
set_option maxHeartbeats 1000000 in
theorem refhex_any (v : Value) (l : List Int) (w : World) (hB : BytesAt w v l) (ho : Octs l) (hlen : l.length ≤ 1099511627776) :
    Calls Tryz.prog 40 #[v] w fun e w' => e = .returned (.string (strOfNums (hexL l))) ∧ Below w.heap.size w w' := by
  obtain ⟨i0, hi, hz0, hz1, hz2⟩ := info_parts info5
  obtain ⟨ao, c, rfl⟩ := hB.shape
  go_enter Tryz.func40, Tryz.ntmps40
  go_wp2
  go_loopw [3, 4] (fun u i wr => ∃ k : Nat, k ≤ l.length ∧ i = .int .i64 k ∧ wr.ownsRow w.heap.size 5 1 u (2 * k) (octets (hexL (l.take k))) ∧ Below w.heap.size w wr) (fun _ i _ => l.length - (intOf i).toNat)
  case atStart => exact ⟨0, by omega, rfl, by simpa [hexL, octets] using World.ownsRow_nil _ _ _ _, Below.refl _ _⟩
  case round =>
    obtain ⟨k, hk, rfl, hown, hb⟩ := hrel
    obtain ⟨ao3, c3, rfl, hc3, _⟩ := owns_shape hown
    by_cases hlt : k < l.length
    · rcases hB with ⟨rfl, _⟩ | ⟨b, off, c', hv, h0, hc', hbl, hcell⟩
      · simp at hlt
      obtain ⟨rfl, rfl⟩ : ao = some ⟨b, off, none⟩ ∧ c = c' := by simpa using hv
      have hx := ho.getD k
      obtain ⟨x, hxe⟩ : ∃ x, x = l.getD k 0 := ⟨_, rfl⟩
      rw [← hxe] at hx
      have c0 : wr.cell? ⟨b, off + k, none⟩ = some (.int .u8 x) := by rw [hxe]; exact (hb.cell (p := ⟨b, off + k, none⟩) (by simp only; omega)).trans (hcell k hlt)
      have Hxe := Lib.hid hxe
      have q1 := run_hexd (P := Tryz.prog) und9 (x / 16) (by omega) (by omega)
      have q2 := run_hexd (P := Tryz.prog) und9 (x % 16) (by omega) (by omega)
      simp only [hexs] at q1 q2
      have q3 := and15 x (by omega) (by omega)
      clear hxe hcell hv
      go_wp2
      go_region_law (refine step_append_bytes rfl _ _ 80 rfl w.heap.size 5 i0 (.int .u8 0) und23 hi hz0 hz1 hz2 rfl _ _ (hexL (l.take k)) [hexd (x / 16), hexd (x % 16)] rfl (World.ownsRow.alloc (w := wr.drew) hown _) _ rfl (BytesAt.new wr.drew 5 _ (by simp)) (by simp; omega) (by have := hb.size; simp; omega) ?_; intro v8 w8 hown8 hg8 hn8)
      all_goals
        go_wp2
        go_roundw
        case rel =>
          have hbd : Below w.heap.size w wr.drew := hb.drew
          refine ⟨k + 1, by omega, by go_num, ?_, ?_⟩
          · rw [hexL_take l k hlt, ← Hxe.out, show 2 * (k + 1) = 2 * k + 2 by omega]; exact hown8
          · exact (hbd.alloc hbd.size _).grown hg8 (by have := hb.size; simp; omega) (fun k hk => (hown.lt k hk).1)
        case measure => first | (simp [intOf]; done) | (simp [intOf]; omega)
    · obtain rfl : k = l.length := by omega
      rw [List.take_length] at hown
      go_wp2_with ((with_reducible show wpList _ _ _ (⟨some 27, _, _, _, _, _⟩ :: _) _ _); go_must (refine wpList_convert_bytes rfl 80 9 5 _ rfl _ (hexL l) und23 und5 und9 rfl (BytesAt.of_owns hown) ?_); simp only [Act.put, List.setIfInBounds_toArray, List.set_cons_zero, List.set_cons_succ])
      go_ret
      exact ⟨rfl, hb⟩
end Go.Proofs.YtkgbldkjpohinaaGreatDoor
namespace Go.Proofs.YtkgbldkjpohinaaGreatDoor
open Go.RowKit
set_option maxRecDepth 100000 in
set_option maxHeartbeats 1000000 in
theorem refstretch_any (salt pass : ByteArray) (times : Int) (w : World) (hs : salt.size + pass.size ≤ 1073741824) :
    Calls Tryz.prog 21 #[.string salt, .string pass, .int .i64 times] w fun e w' => e = .returned (.string (strOfNums (hexL (stretchL (bytesOf salt) (bytesOf pass) (min (max times 0) 1000).toNat)))) ∧ Below w.heap.size w w' := by
  obtain ⟨n, hn⟩ : ∃ n : Nat, (n : Int) = min (max times 0) 1000 := ⟨(min (max times 0) 1000).toNat, by omega⟩
  have hnt : (min (max times 0) 1000).toNat = n := by omega
  have hn2 : n ≤ 1000 := by omega
  rw [hnt]
  clear hnt
  have Hn := Lib.hid hn
  clear hn
  go_enter Tryz.func21, Tryz.ntmps21
  go_wp2_with (first
    | (go_at_call 38; refine (constants_any _).mono ?_; rintro e w1 ⟨bk, bh, rfl, hk, hh, hb1, hbk, hbh⟩)
    | (go_at_call 39; refine (sum_any bk bh _ _ ?_ ?_ ?_).mono ?_; (exact hk.alloc _); (exact hh.alloc _); (simp only [ByteArray.size_append, show ({ data := #[0] } : ByteArray).size = 1 from rfl]; omega); rintro e w2 ⟨v2, rfl, hown2, hb2⟩))
  have hz1 := hb1.size
  have hkl := hk.lt
  have hhl := hh.lt
  simp only [World.size_alloc] at hb2
  rw [bytesOf_append, bytesOf_append, bytesOf_nul] at hown2
  obtain ⟨W1, hW1⟩ : ∃ W1, W1 = w1.alloc (Obj.cells #[.slice (some ⟨bk, 0, none⟩) 64 64, .slice (some ⟨bh, 0, none⟩) 8 8] 93) := ⟨_, rfl⟩
  have hx0 : W1.cell? ⟨w1.heap.size, 0, none⟩ = some (.slice (some ⟨bk, 0, none⟩) 64 64) := by rw [hW1, cell_of_row _ _ _ _ 93 (0, 0) (heap_alloc_new w1 _)]; rfl
  have hx1 : W1.cell? ⟨w1.heap.size, 1, none⟩ = some (.slice (some ⟨bh, 0, none⟩) 8 8) := by rw [hW1, cell_of_row _ _ _ _ 93 (0, 0) (heap_alloc_new w1 _)]; rfl
  have hk1 : Row32 W1 bk 107 k64 := by rw [hW1]; exact hk.alloc _
  have hh1 : Row32 W1 bh 107 h8 := by rw [hW1]; exact hh.alloc _
  have hs1 : W1.heap.size = w1.heap.size + 1 := by rw [hW1]; simp
  have hb01 : Below w.heap.size w W1 := by rw [hW1]; exact hb1.alloc (by omega) _
  rw [← hW1] at hb2
  have hB2 : BytesAt w2 v2 (stretchL (bytesOf salt) (bytesOf pass) 0) := BytesAt.of_owns hown2
  clear hown2 hk hh hW1
  go_loopw [8, 9] (fun u i wr => ∃ k : Nat, k ≤ n ∧ i = .int .i64 k ∧ BytesAt wr u (stretchL (bytesOf salt) (bytesOf pass) k) ∧ Below (w1.heap.size + 1) W1 wr) (fun _ i _ => n - (intOf i).toNat)
  case atStart => exact ⟨0, by omega, rfl, hB2, hb2⟩
  case round =>
    clear hB2 hb2
    obtain ⟨k, hk, rfl, hB, hb⟩ := hrel
    obtain ⟨ao, c, rfl⟩ := hB.shape
    have hbs := hb.size
    have y0 : wr.cell? ⟨w1.heap.size, 0, none⟩ = some (.slice (some ⟨bk, 0, none⟩) 64 64) := (hb.cell (p := ⟨w1.heap.size, 0, none⟩) (by simp)).trans hx0
    have y1 : wr.cell? ⟨w1.heap.size, 1, none⟩ = some (.slice (some ⟨bh, 0, none⟩) 8 8) := (hb.cell (p := ⟨w1.heap.size, 1, none⟩) (by simp)).trans hx1
    by_cases hlt : k < n
    · have hsz : (strOfNums (stretchL (bytesOf salt) (bytesOf pass) k)).size = 32 := by rw [strOfNums_size, stretchL_length]
      have hd : decide ((k : Int) < min times 1000) = true := by
        have := Hn.out
        simp only [decide_eq_true_eq]
        omega
      go_wp2_with (first
        | ((with_reducible show wpList _ _ _ (⟨some 19, _, _, _, _, _⟩ :: _) _ _); go_must (refine wpList_min rfl _ _ 3 rfl _ _ rfl rfl ?_); simp only [Act.put, List.setIfInBounds_toArray, List.set_cons_zero, List.set_cons_succ])
        | ((with_reducible show wpList _ _ _ (⟨some 25, _, _, _, _, _⟩ :: _) _ _); go_must (refine wpList_convert_bytes rfl 80 9 5 _ rfl _ _ und23 und5 und9 rfl hB ?_); simp only [Act.put, List.setIfInBounds_toArray, List.set_cons_zero, List.set_cons_succ])
        | (go_at_call 39; refine (sum_any bk bh _ _ ?_ ?_ ?_).mono ?_; (exact hk1.below hb (by omega)); (exact hh1.below hb (by omega)); (simp only [ByteArray.size_append]; omega); rintro e w4 ⟨v4, rfl, hown4, hb4⟩))
      rw [bytesOf_append, bytesOf_append, bytesOf_strOfNums (stretchL_octs _ _ _)] at hown4
      go_roundw
      case rel =>
        exact ⟨k + 1, by omega, by go_num, BytesAt.of_owns hown4, hb.trans (hb4.mono (by omega))⟩
      case measure => first | (simp [intOf]; done) | (simp [intOf]; omega)
    · obtain rfl : k = n := by omega
      have hd : decide ((k : Int) < min times 1000) = false := by
        have := Hn.out
        simp only [decide_eq_false_iff_not]
        omega
      go_wp2_with (first
        | ((with_reducible show wpList _ _ _ (⟨some 19, _, _, _, _, _⟩ :: _) _ _); go_must (refine wpList_min rfl _ _ 3 rfl _ _ rfl rfl ?_); simp only [Act.put, List.setIfInBounds_toArray, List.set_cons_zero, List.set_cons_succ])
        | (go_at_call 40; refine (refhex_any _ _ _ hB (stretchL_octs _ _ _) (by rw [stretchL_length]; omega)).mono ?_; rintro e w3 ⟨rfl, hb3⟩))
      go_ret
      exact ⟨rfl, hb01.trans ((hb.mono (by omega)).trans (hb3.mono (by omega)))⟩
end Go.Proofs.YtkgbldkjpohinaaGreatDoor
