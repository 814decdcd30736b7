/- The contracts of the functions that turn a word, and of hash.first. -/
import Derived.Test.YtkgbldkjpohinaaGreatDoorChecked
import Derived.Test.YtkgbldkjpohinaaGreatDoorShaBase
import Derived.Deep.QuietTactic
import Derived.BigQuiet
import Derived.Deep.DeepMust
namespace Go.Proofs.YtkgbldkjpohinaaGreatDoor
open Go.RowKit
theorem rotl_any (x n : Int) (w : World) (h1 : 1 ≤ n) (h2 : n ≤ 31) :
    Calls Tryz.prog 65 #[.int .u32 x, .int .i64 (-n)] w fun e w' => e = .returned (.int .u32 (rotr x n)) ∧ w = w' := by
  have hs := and31 n h1 h2
  go_enter Tryz.func65, Tryz.ntmps65
  go_wp2
  go_ret
  refine ⟨ret_int ?_, rfl⟩
  have : 32 - (32 - n) = n := by omega
  rw [rotr, bits_or_comm]
  first | rfl | simp [this]
theorem turn_any (x n : Int) (w : World) (h1 : 1 ≤ n) (h2 : n ≤ 31) :
    Calls Tryz.prog 64 #[.int .u32 x, .int .i64 n] w fun e w' => e = .returned (.int .u32 (rotr x n)) ∧ w = w' := by
  go_enter Tryz.func64, Tryz.ntmps64
  go_wp2_with (go_at_call 65; refine (rotl_any _ _ _ h1 h2).mono ?_; rintro e w' ⟨rfl, rfl⟩)
  go_ret
  exact ⟨rfl, rfl⟩
theorem ror_any (x n : Int) (w : World) (h1 : 1 ≤ n) (h2 : n ≤ 31) :
    Calls Tryz.prog 54 #[.int .u32 x, .int .i64 n] w fun e w' => e = .returned (.int .u32 (rotr x n)) ∧ ∃ n, w' = w.drewN n := by
  go_enter Tryz.func54, Tryz.ntmps54
  go_wp2
  go_quiet (fail)
  go_wp2
  go_ret
  exact ⟨rfl, _, rfl⟩

theorem info47 : (Tryz.prog.info? 108).map (·.zero) = some (some (.agg (words (zz 8)))) := by kernel_rfl
theorem info48 : (Tryz.prog.info? 109).map (·.zero) = some (some (.agg (words (zz 64)))) := by kernel_rfl
theorem size47 : (Tryz.prog.info? 108).map (·.size) = some 8 := by kernel_rfl
theorem size48 : (Tryz.prog.info? 109).map (·.size) = some 64 := by kernel_rfl
theorem und47 : Tryz.prog.underlying 108 = some (.array 8 107) := by kernel_rfl
theorem und48 : Tryz.prog.underlying 109 = some (.array 64 107) := by kernel_rfl

set_option maxRecDepth 100000 in
theorem first_any (w : World) :
    Calls Tryz.prog 52 #[] w fun e w' => e = .returned (.tuple #[.agg (words h8), .agg (words k64)]) ∧ Below w.heap.size w w' := by
  go_enter Tryz.func52, Tryz.ntmps52
  go_wp2_with (first
    | (with_reducible refine wpList_al (o := ⟨some 0, _, _, _, _, _⟩) rfl 108 rfl _ info47 ?_; simp only [Act.put, List.setIfInBounds_toArray, List.set_cons_zero])
    | (with_reducible refine wpList_al (o := ⟨some 1, _, _, _, _, _⟩) rfl 109 rfl _ info48 ?_; simp only [Act.put, List.setIfInBounds_toArray, List.set_cons_zero, List.set_cons_succ, World.size_alloc])
    | (with_reducible refine wpList_val (o := ⟨some 2, _, _, _, _, _⟩) rfl (.agg (words h8)) (by kernel_rfl) ?_; simp only [Act.put, List.setIfInBounds_toArray, List.set_cons_zero, List.set_cons_succ])
    | (with_reducible refine wpList_val (o := ⟨some 3, _, _, _, _, _⟩) rfl (.agg (words k64)) (by kernel_rfl) ?_; simp only [Act.put, List.setIfInBounds_toArray, List.set_cons_zero, List.set_cons_succ])
    | ((with_reducible show wpList _ _ _ (⟨none, .store 108 _ _, _, _, _, _⟩ :: _) _ _); go_must (refine wpList_store_row rfl 108 _ _ rfl w.heap.size (words h8) rfl rfl 108 (words (zz 8)) (heap_alloc2_old w _ _) size47 rfl (words_oneCell _) ?_))
    | ((with_reducible show wpList _ _ _ (⟨none, .store 109 _ _, _, _, _, _⟩ :: _) _ _); go_must (refine wpList_store_row rfl 109 _ _ rfl (w.heap.size + 1) (words k64) rfl rfl 109 (words (zz 64)) ((setRow_other _ _ _ _ (by omega)).trans (heap_alloc2_new w _ _)) size48 rfl (words_oneCell _) ?_)))
  refine bodyPost_ret (v := .tuple #[.agg (words h8), .agg (words k64)]) (results_two_rows rfl _ _ w.heap.size (w.heap.size + 1) 108 109 (words h8) (words k64) (0, 0) (0, 0) _ _ rfl ?_ und47 rfl size47 rfl ?_ und48 rfl size48) rfl ⟨rfl, ?_⟩
  · rw [setRow_other _ _ _ _ (by omega)]; exact setRow_heap _ _ _ _ _ _ (heap_alloc2_old w _ _)
  · exact setRow_heap _ _ (words (zz 64)) _ _ _ ((setRow_other _ _ _ _ (by omega)).trans (heap_alloc2_new w _ _))
  · exact Below.setRow (Below.setRow (((Below.refl _ _).alloc (Nat.le_refl _) _).alloc (by simp) _) (Nat.le_refl _) _) (by omega) _

end Go.Proofs.YtkgbldkjpohinaaGreatDoor
