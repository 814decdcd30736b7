/- hash.mix takes a block of 64 bytes into a state as 'mixL' says, and writes into new memory alone. -/
import Derived.Test.YtkgbldkjpohinaaGreatDoorShaRot
import Derived.Test.YtkgbldkjpohinaaGreatDoorTail
import Derived.Lib.Hide
namespace Go.Proofs.YtkgbldkjpohinaaGreatDoor
open Go.RowKit
structure MixI (w : World) (B C : Nat) (h : List Int) (wr : World) : Prop where
  below : Below B w wr
  rh : Row32 wr B 108 h
  rr : Row32 wr (B + 1) 108 (zz 8)
  rk : Row32 wr (C + 1) 109 k64
  bc : B + 2 ≤ C
  lt : C + 2 < wr.heap.size
theorem MixI.drewN {w wr : World} {B C : Nat} {h : List Int} (H : MixI w B C h wr) (n : Nat) : MixI w B C h (wr.drewN n) :=
  ⟨⟨H.below.os, H.below.tape, H.below.output, H.below.size, H.below.block⟩, H.rh, H.rr, H.rk, H.bc, H.lt⟩
theorem MixI.set {w wr : World} {B C : Nat} {h : List Int} (H : MixI w B C h wr) (k : Nat) (v : Value) : MixI w B C h (wr.setCell ⟨C + 2, k, none⟩ v) := by
  have := H.bc
  exact ⟨H.below.setCell (by simp only; omega) v, H.rh.other (by simp only; omega) v, H.rr.other (by simp only; omega) v, H.rk.other (by simp only; omega) v, H.bc, by have := H.lt; simpa [World.setCell] using this⟩
theorem MixI.alloc {w wr : World} {B C : Nat} {h : List Int} (H : MixI w B C h wr) (o : Obj) : MixI w B C h (wr.alloc o) := by
  have hl := H.lt
  have hb := H.bc
  exact ⟨H.below.alloc (by omega) o, H.rh.alloc o, H.rr.alloc o, H.rk.alloc o, H.bc, by simp; omega⟩
theorem MixI.setRow {w wr : World} {B C : Nat} {h : List Int} (H : MixI w B C h wr) {S : Nat} (hS : C + 2 < S) (cs : Array Value) : MixI w B C h (wr.setRow S cs) := by
  have hb := H.bc
  exact ⟨Below.setRow H.below (by omega) cs, H.rh.setRow_other (by omega) cs, H.rr.setRow_other (by omega) cs, H.rk.setRow_other (by omega) cs, H.bc, by have := H.lt; simpa using this⟩
set_option maxRecDepth 100000 in
set_option maxHeartbeats 4000000 in
theorem mix_any (b off len cap : Nat) (h : List Int) (hl : h.length = 8) (p : Nat → Int) (w : World)
   (hlen : 64 ≤ len) (hlen2 : len ≤ 9223372036854775807) (hbb : b < w.heap.size) (hc : ∀ j, j < 64 → w.cell? ⟨b, off + j, none⟩ = some (.int .u8 (p j)))
   (hp : ∀ j, 0 ≤ p j ∧ p j < 256) :
    Calls Tryz.prog 53 #[.agg (words h), .slice (some ⟨b, off, none⟩) len cap] w fun e w' => e = .returned (.agg (words (mixL h p))) ∧ Below w.heap.size w w' := by
  go_enter Tryz.func53, Tryz.ntmps53
  go_wp2_with (first
    | (with_reducible refine wpList_al (o := ⟨some 4, _, _, _, _, _⟩) rfl 108 rfl _ info47 ?_; simp only [Act.put, List.setIfInBounds_toArray, List.set_cons_zero, List.set_cons_succ])
    | (with_reducible refine wpList_al (o := ⟨some 5, _, _, _, _, _⟩) rfl 108 rfl _ info47 ?_; simp only [Act.put, List.setIfInBounds_toArray, List.set_cons_zero, List.set_cons_succ])
    | (with_reducible refine wpList_al (o := ⟨some 6, _, _, _, _, _⟩) rfl 109 rfl _ info48 ?_; simp only [Act.put, List.setIfInBounds_toArray, List.set_cons_zero, List.set_cons_succ, World.size_alloc])
    | (with_reducible refine wpList_al (o := ⟨some 7, _, _, _, _, _⟩) rfl 109 rfl _ info48 ?_; simp only [Act.put, List.setIfInBounds_toArray, List.set_cons_zero, List.set_cons_succ, World.size_alloc, size_setRow, Nat.add_assoc, Nat.reduceAdd])
    | (go_at_call 52; refine (first_any _).mono ?_; rintro e w1 ⟨rfl, hb1⟩)
    | ((with_reducible show wpList _ _ _ (⟨none, .store 108 _ _, _, _, _, _⟩ :: _) _ _); go_must (refine wpList_store_row rfl 108 _ _ rfl w1.heap.size (words h8) rfl rfl 108 (words (zz 8)) (heap_alloc2_old w1 _ _) size47 rfl (words_oneCell _) ?_))
    | ((with_reducible show wpList _ _ _ (⟨none, .store 109 _ _, _, _, _, _⟩ :: _) _ _); go_must (refine wpList_store_row rfl 109 _ _ rfl (w1.heap.size + 1) (words k64) rfl rfl 109 (words (zz 64)) ((setRow_other _ _ _ _ (by omega)).trans (heap_alloc2_new w1 _ _)) size48 rfl (words_oneCell _) ?_)))
  go_loopw [24] (fun i wr => ∃ k : Nat, k ≤ 16 ∧ i = .int .i64 k ∧ MixI w w.heap.size w1.heap.size h wr ∧ ∃ l : List Int, l.length = 64 ∧ l.take k = wpre p k ∧ Row32 wr (w1.heap.size + 2) 109 l) (fun i _ => 16 - (intOf i).toNat)
  case atStart =>
    have hs : w.heap.size + 2 ≤ w1.heap.size := by have := hb1.size; simpa using this
    have R0 : Row32 ((w.alloc (.cells (words h) 108)).alloc (.cells (words (zz 8)) 108)) w.heap.size 108 h := heap_alloc2_old w _ _
    have R1 : Row32 ((w.alloc (.cells (words h) 108)).alloc (.cells (words (zz 8)) 108)) (w.heap.size + 1) 108 (zz 8) := heap_alloc2_new w _ _
    have hsz : ((w.alloc (.cells (words h) 108)).alloc (.cells (words (zz 8)) 108)).heap.size = w.heap.size + 2 := by simp
    have R0' := R0.below hb1 (by rw [hsz]; omega)
    have R1' := R1.below hb1 (by rw [hsz]; omega)
    have B1 : Below w.heap.size w w1 := (((Below.refl _ _).alloc (Nat.le_refl _) _).alloc (by simp) _).trans (hb1.mono (by rw [hsz]; omega))
    refine ⟨0, by omega, rfl, ⟨?_, ?_, ?_, ?_, hs, ?_⟩, zz 64, rfl, rfl, ?_⟩
    · exact (Below.setRow (Below.setRow ((B1.alloc (by omega) _).alloc (by simp; omega) _) (by omega) _) (by omega) _).alloc (by simp; omega) _
    · exact (((((R0'.alloc _).alloc _).setRow_other (by omega) _).setRow_other (by omega) _).alloc _)
    · exact (((((R1'.alloc _).alloc _).setRow_other (by omega) _).setRow_other (by omega) _).alloc _)
    · refine Row32.alloc ?_ _
      exact setRow_heap _ _ (words (zz 64)) _ _ _ ((setRow_other _ _ _ _ (by omega)).trans (heap_alloc2_new w1 _ _))
    · simp
    · have := Row32.new (((((w1.alloc (.cells (words (zz 8)) 108)).alloc (.cells (words (zz 64)) 109)).setRow w1.heap.size (words h8)).setRow (w1.heap.size + 1) (words k64))) 109 (zz 64)
      simp only [size_setRow, World.size_alloc, Nat.add_assoc, Nat.reduceAdd] at this
      exact this
  case round =>
    obtain ⟨k, hk, rfl, hI, l, hll, htk, hrow⟩ := hrel
    by_cases hlt : k < 16
    · have hcc : ∀ j, j < 64 → wr.cell? ⟨b, off + j, none⟩ = some (.int .u8 (p j)) := fun j hj => (hI.below.cell (by exact hbb)).trans (hc j hj)
      have c0 := hcc (4 * k) (by omega)
      have c1 := hcc (4 * k + 1) (by omega)
      have c2 := hcc (4 * k + 2) (by omega)
      have c3 := hcc (4 * k + 3) (by omega)
      have b0 := (hp (4 * k)); have b1 := hp (4 * k + 1); have b2 := hp (4 * k + 2); have b3 := hp (4 * k + 3)
      have s0 : (wr.cell? ⟨w1.heap.size + 2, k, none⟩) = some (.int .u32 (l.getD k 0)) := hrow.cell (by omega)
      have f0 := hrow.frozen k
      have Hll := Lib.hid hll
      have Htk := Lib.hid htk
      clear hcc hp hc hll htk
      go_wp2
      refine wp_region_quiet_tail 34 (by kernel_rfl) (by kernel_rfl) (by kernel_rfl) ?_
      simp only [List.take_succ_cons, List.take_zero, List.drop_succ_cons, List.drop_zero]
      repeat (go_big_quiet_step (fail))
      refine wpQuiet_nil ?_
      rintro _ ⟨nq, rfl⟩
      go_wp2
      go_roundw
      case rel =>
        refine ⟨k + 1, by omega, by go_num, (hI.drewN nq).set k _, _, ?_, ?_, Row32.set (w := wr.drewN nq) hrow k _⟩
        · rw [List.length_set]; exact Hll.out
        · have h1 := Hll.out
          have h2 := Htk.out
          rw [List.take_add_one, List.take_set_of_le (by omega), h2, List.getElem?_set_self (by omega), wpre, if_pos hlt]
          rfl
      case measure => first | (simp [intOf]; done) | (simp [intOf]; omega)
    · obtain rfl : k = 16 := by omega
      clear hc hp
      go_wp2
      go_loopw [10] (fun i wr => ∃ k : Nat, 16 ≤ k ∧ k ≤ 64 ∧ i = .int .i64 k ∧ MixI w w.heap.size w1.heap.size h wr ∧ ∃ l : List Int, l.length = 64 ∧ l.take k = wpre p k ∧ Row32 wr (w1.heap.size + 2) 109 l) (fun i _ => 64 - (intOf i).toNat)
      case atStart => exact ⟨16, by omega, by omega, rfl, hI, l, hll, htk, hrow⟩
      case round =>
        clear hI l hll htk hrow
        obtain ⟨k, hk1, hk, rfl, hI, l, hll, htk, hrow⟩ := hrel
        by_cases hlt : k < 64
        · have c15 : (wr.cell? ⟨w1.heap.size + 2, k - 15, none⟩) = some (.int .u32 (l.getD (k - 15) 0)) := hrow.cell (by omega)
          have c2 : (wr.cell? ⟨w1.heap.size + 2, k - 2, none⟩) = some (.int .u32 (l.getD (k - 2) 0)) := hrow.cell (by omega)
          have c16 : (wr.cell? ⟨w1.heap.size + 2, k - 16, none⟩) = some (.int .u32 (l.getD (k - 16) 0)) := hrow.cell (by omega)
          have c7 : (wr.cell? ⟨w1.heap.size + 2, k - 7, none⟩) = some (.int .u32 (l.getD (k - 7) 0)) := hrow.cell (by omega)
          have s0 : (wr.cell? ⟨w1.heap.size + 2, k, none⟩) = some (.int .u32 (l.getD k 0)) := hrow.cell (by omega)
          have f0 := hrow.frozen k
          have Hll := Lib.hid hll
          have Htk := Lib.hid htk
          clear hll htk
          go_wp2
          go_quiet ((go_at_call 64; refine (turn_any _ _ _ (by omega) (by omega)).mono ?_; rintro e w' ⟨rfl, rfl⟩; exact ⟨rfl, _, rfl⟩))
          go_wp2
          go_quiet ((go_at_call 64; refine (turn_any _ _ _ (by omega) (by omega)).mono ?_; rintro e w' ⟨rfl, rfl⟩; exact ⟨rfl, _, rfl⟩))
          go_wp2
          refine wp_region_quiet_tail 14 (by kernel_rfl) (by kernel_rfl) (by kernel_rfl) ?_
          simp only [List.take_succ_cons, List.take_zero, List.drop_succ_cons, List.drop_zero]
          repeat (go_big_quiet_step (fail))
          refine wpQuiet_nil ?_
          rintro _ ⟨nq3, rfl⟩
          go_wp2
          go_roundw
          case rel =>
            refine ⟨k + 1, by omega, by omega, by go_num, (hI.drewN _).set k _, _, ?_, ?_, Row32.set (w := wr.drewN _) hrow k _⟩
            · rw [List.length_set]; exact Hll.out
            · have h1 := Hll.out
              have h2 := Htk.out
              rw [List.take_add_one, List.take_set_of_le (by omega), h2, List.getElem?_set_self (by omega), wpre, if_neg (by omega)]
              rw [← h2, wnext_take l k hk1]
              rfl
          case measure => first | (simp [intOf]; done) | (simp [intOf]; omega)
        · obtain rfl : k = 64 := by omega
          obtain ⟨wo, rfl⟩ : ∃ wo : World, wo = wr := ⟨_, rfl⟩
          have hW : l = wpre p 64 := by rw [← htk, List.take_of_length_le (by omega)]
          have HW := Lib.hid hW
          clear hW htk
          go_wp2_with (first
            | ((with_reducible show wpList _ _ _ (⟨some 120, _, _, _, _, _⟩ :: _) _ _); go_must (refine wpList_load_row rfl 108 _ rfl w.heap.size rfl 108 (words h) (0, 0) _ hI.rh und47 rfl (by rw [words_size, hl]; exact size47) ?_); simp only [Act.put, List.setIfInBounds_toArray, List.set_cons_zero, List.set_cons_succ])
            | (with_reducible refine wpList_al (o := ⟨some 13, _, _, _, _, _⟩) rfl 108 rfl _ info47 ?_; simp only [Act.put, List.setIfInBounds_toArray, List.set_cons_zero, List.set_cons_succ])
            | ((with_reducible show wpList _ _ _ (⟨none, .store 108 _ _, _, _, _, _⟩ :: _) _ _); go_must (refine wpList_store_row rfl 108 _ _ rfl wo.heap.size (words h) rfl rfl 108 (words (zz 8)) (heap_alloc_new wo _) (by rw [words_size, hl]; exact size47) (by rw [words_size, words_size, hl]; rfl) (words_oneCell _) ?_)))
          go_loopw [121] (fun i wz => ∃ k : Nat, k ≤ 64 ∧ i = .int .i64 k ∧ MixI w w.heap.size w1.heap.size h wz ∧ Row32 wz (w1.heap.size + 2) 109 l ∧ Row32 wz wo.heap.size 108 (rounds l h k)) (fun i _ => 64 - (intOf i).toNat)
          case atStart =>
            have hlt2 := hI.lt
            exact ⟨0, by omega, rfl, (hI.alloc _).setRow (by omega) _, (hrow.alloc _).setRow_other (by omega) _, setRow_heap _ _ _ _ _ _ (heap_alloc_new wo _)⟩
          case round =>
            have hC := hI.lt
            have hBC := hI.bc
            clear hI hrow
            obtain ⟨k, hk, rfl, hI, hrow, hs⟩ := hrel
            by_cases hlt : k < 64
            · obtain ⟨a, b', c, d, e, f, g, hh, hst⟩ := eight (rounds_length l hl k)
              have Hst := Lib.hid hst
              rw [hst] at hs
              clear hst
              have s0 := hs.cell (j := 0) (by simp)
              have s1 := hs.cell (j := 1) (by simp)
              have s2 := hs.cell (j := 2) (by simp)
              have s3 := hs.cell (j := 3) (by simp)
              have s4 := hs.cell (j := 4) (by simp)
              have s5 := hs.cell (j := 5) (by simp)
              have s6 := hs.cell (j := 6) (by simp)
              have s7 := hs.cell (j := 7) (by simp)
              simp only [List.getD_cons_zero, List.getD_cons_succ] at s0 s1 s2 s3 s4 s5 s6 s7
              have ck := hI.rk.cell (j := k) (by rw [show k64.length = 64 from rfl]; omega)
              have cw := hrow.cell (j := k) (by omega)
              have Hll := Lib.hid hll
              clear hll
              go_wp2
              go_quiet ((go_at_call 64; refine (turn_any _ _ _ (by omega) (by omega)).mono ?_; rintro e w' ⟨rfl, rfl⟩; exact ⟨rfl, _, rfl⟩))
              go_wp2
              go_quiet (fail)
              go_wp2
              go_quiet ((go_at_call 64; refine (turn_any _ _ _ (by omega) (by omega)).mono ?_; rintro e w' ⟨rfl, rfl⟩; exact ⟨rfl, _, rfl⟩))
              go_wp2_with ((with_reducible show wpList _ _ _ (⟨none, .store 108 _ _, _, _, _, _⟩ :: _) _ _); go_must (refine wpList_store_row rfl 108 _ _ rfl wo.heap.size (words (rnd (k64.getD k 0) (l.getD k 0) [a, b', c, d, e, f, g, hh])) rfl rfl 108 _ hs size47 rfl (words_oneCell _) ?_))
              go_roundw
              case rel =>
                refine ⟨k + 1, by omega, by go_num, (hI.drewN _).setRow (by omega) _, Row32.setRow_other (w := wr.drewN _) hrow (by omega) _, ?_⟩
                rw [rounds, Hst.out]
                exact Row32.setRow_same (w := wr.drewN _) hs _
              case measure => first | (simp [intOf]; done) | (simp [intOf]; omega)
            · obtain rfl : k = 64 := by omega
              obtain ⟨st, hst⟩ : ∃ st, st = rounds l h 64 := ⟨_, rfl⟩
              have hsl : st.length = 8 := by rw [hst]; exact rounds_length l hl 64
              have Hst := Lib.hid hst
              rw [← hst] at hs
              clear hst
              have hD := hI.below
              have hH := hI.rh
              have hR := hI.rr
              clear hI hrow
              go_wp2
              go_loopw [217] (fun i wz => ∃ k : Nat, k ≤ 8 ∧ i = .int .i64 k ∧ Below w.heap.size w wz ∧ Row32 wz w.heap.size 108 (addk h st k) ∧ Row32 wz (w.heap.size + 1) 108 (zz 8) ∧ Row32 wz wo.heap.size 108 st) (fun i _ => 8 - (intOf i).toNat)
              case atStart => exact ⟨0, by omega, rfl, hD, hH, hR, hs⟩
              case round =>
                clear hD hH hR hs
                obtain ⟨k, hk, rfl, hD, hH, hR, hs⟩ := hrel
                have hal := addk_length h st k
                by_cases hlt : k < 8
                · have c1 := hH.cell (j := k) (by omega)
                  have c2 := hs.cell (j := k) (by omega)
                  have f0 := hH.frozen k
                  have Hal := Lib.hid hal
                  have Hsl := Lib.hid hsl
                  have Hl := Lib.hid hl
                  clear hal hsl hl
                  go_wp2
                  refine wp_region_quiet_tail 7 (by kernel_rfl) (by kernel_rfl) (by kernel_rfl) ?_
                  simp only [List.take_succ_cons, List.take_zero, List.drop_succ_cons, List.drop_zero]
                  repeat (go_big_quiet_step (fail))
                  refine wpQuiet_nil ?_
                  rintro _ ⟨nq4, rfl⟩
                  go_wp2
                  go_roundw
                  case rel =>
                    have hD' : Below w.heap.size w (wr.drewN nq4) := ⟨hD.os, hD.tape, hD.output, hD.size, hD.block⟩
                    refine ⟨k + 1, by omega, by go_num, hD'.setCell (Nat.le_refl _) _, Row32.set (w := wr.drewN nq4) hH k _, Row32.other (w := wr.drewN nq4) hR (by simp only; omega) _, Row32.other (w := wr.drewN nq4) hs (by simp only; omega) _⟩
                  case measure => first | (simp [intOf]; done) | (simp [intOf]; omega)
                · obtain rfl : k = 8 := by omega
                  go_wp2_with (first
                    | ((with_reducible show wpList _ _ _ (⟨some 229, _, _, _, _, _⟩ :: _) _ _); go_must (refine wpList_load_row rfl 108 _ rfl w.heap.size rfl 108 (words (addk h st 8)) (0, 0) _ hH und47 rfl (by rw [words_size, hal, hl]; exact size47) ?_); simp only [Act.put, List.setIfInBounds_toArray, List.set_cons_zero, List.set_cons_succ])
                    | ((with_reducible show wpList _ _ _ (⟨none, .store 108 _ _, _, _, _, _⟩ :: _) _ _); go_must (refine wpList_store_row rfl 108 _ _ rfl (w.heap.size + 1) (words (addk h st 8)) rfl rfl 108 _ hR (by rw [words_size, hal, hl]; exact size47) (by rw [words_size, words_size, hal, hl]; rfl) (words_oneCell _) ?_)))
                  refine bodyPost_ret (v := .agg (words (addk h st 8))) (results_cell_row rfl _ _ (w.heap.size + 1) 108 (words (addk h st 8)) (0, 0) _ rfl (setRow_heap _ _ _ _ _ _ hR) und47 rfl (by rw [words_size, hal, hl]; exact size47)) rfl ⟨?_, Below.setRow hD (by omega) _⟩
                  rw [mixL, Hst.out, HW.out]
end Go.Proofs.YtkgbldkjpohinaaGreatDoor
