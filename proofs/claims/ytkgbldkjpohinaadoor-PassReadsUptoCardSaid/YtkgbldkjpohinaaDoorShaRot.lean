/- The contracts of the functions that turn a word, and of hash.first. -/
import Derived.Test.YtkgbldkjpohinaaDoorChecked
import Derived.Test.YtkgbldkjpohinaaDoorShaBase
import Derived.Deep.QuietTactic
import Derived.BigQuiet
import Derived.Deep.DeepMust
namespace Go.Proofs.YtkgbldkjpohinaaDoor
open Go.RowKit
theorem rotl_any (x n : Int) (w : World) (h1 : 1 ≤ n) (h2 : n ≤ 31) :
    Calls Tryd.prog 54 #[.int .u32 x, .int .i64 (-n)] w fun e w' => e = .returned (.int .u32 (rotr x n)) ∧ w = w' := by
  have hs := and31 n h1 h2
  go_enter Tryd.func54, Tryd.ntmps54
  go_wp2
  go_ret
  refine ⟨ret_int ?_, rfl⟩
  have : 32 - (32 - n) = n := by omega
  rw [rotr, bits_or_comm]
  first | rfl | simp [this]
theorem turn_any (x n : Int) (w : World) (h1 : 1 ≤ n) (h2 : n ≤ 31) :
    Calls Tryd.prog 53 #[.int .u32 x, .int .i64 n] w fun e w' => e = .returned (.int .u32 (rotr x n)) ∧ w = w' := by
  go_enter Tryd.func53, Tryd.ntmps53
  go_wp2_with (go_at_call 54; refine (rotl_any _ _ _ h1 h2).mono ?_; rintro e w' ⟨rfl, rfl⟩)
  go_ret
  exact ⟨rfl, rfl⟩
theorem ror_any (x n : Int) (w : World) (h1 : 1 ≤ n) (h2 : n ≤ 31) :
    Calls Tryd.prog 30 #[.int .u32 x, .int .i64 n] w fun e w' => e = .returned (.int .u32 (rotr x n)) ∧ ∃ n, w' = w.drewN n := by
  go_enter Tryd.func30, Tryd.ntmps30
  go_wp2
  go_quiet (fail)
  go_wp2
  go_ret
  exact ⟨rfl, _, rfl⟩

theorem info47 : (Tryd.prog.info? 88).map (·.zero) = some (some (.agg (words (zz 8)))) := by kernel_rfl
theorem info48 : (Tryd.prog.info? 89).map (·.zero) = some (some (.agg (words (zz 64)))) := by kernel_rfl
theorem size47 : (Tryd.prog.info? 88).map (·.size) = some 8 := by kernel_rfl
theorem size48 : (Tryd.prog.info? 89).map (·.size) = some 64 := by kernel_rfl
theorem und47 : Tryd.prog.underlying 88 = some (.array 8 76) := by kernel_rfl
theorem und48 : Tryd.prog.underlying 89 = some (.array 64 76) := by kernel_rfl

set_option maxRecDepth 100000 in
theorem first_any (w : World) :
    Calls Tryd.prog 42 #[] w fun e w' => e = .returned (.tuple #[.agg (words h8), .agg (words k64)]) ∧ Below w.heap.size w w' := by
  go_enter Tryd.func42, Tryd.ntmps42
  go_wp2_with (first
    | (with_reducible refine wpList_al (o := ⟨some 0, _, _, _, _, _⟩) rfl 88 rfl _ info47 ?_; simp only [Act.put, List.setIfInBounds_toArray, List.set_cons_zero])
    | (with_reducible refine wpList_al (o := ⟨some 1, _, _, _, _, _⟩) rfl 89 rfl _ info48 ?_; simp only [Act.put, List.setIfInBounds_toArray, List.set_cons_zero, List.set_cons_succ, World.size_alloc])
    | (with_reducible refine wpList_val (o := ⟨some 2, _, _, _, _, _⟩) rfl (.agg (words h8)) (by kernel_rfl) ?_; simp only [Act.put, List.setIfInBounds_toArray, List.set_cons_zero, List.set_cons_succ])
    | (with_reducible refine wpList_val (o := ⟨some 3, _, _, _, _, _⟩) rfl (.agg (words k64)) (by kernel_rfl) ?_; simp only [Act.put, List.setIfInBounds_toArray, List.set_cons_zero, List.set_cons_succ])
    | ((with_reducible show wpList _ _ _ (⟨none, .store 88 _ _, _, _, _, _⟩ :: _) _ _); go_must (refine wpList_store_row rfl 88 _ _ rfl w.heap.size (words h8) rfl rfl 88 (words (zz 8)) (heap_alloc2_old w _ _) size47 rfl (words_oneCell _) ?_))
    | ((with_reducible show wpList _ _ _ (⟨none, .store 89 _ _, _, _, _, _⟩ :: _) _ _); go_must (refine wpList_store_row rfl 89 _ _ rfl (w.heap.size + 1) (words k64) rfl rfl 89 (words (zz 64)) ((setRow_other _ _ _ _ (by omega)).trans (heap_alloc2_new w _ _)) size48 rfl (words_oneCell _) ?_)))
  refine bodyPost_ret (v := .tuple #[.agg (words h8), .agg (words k64)]) (results_two_rows rfl _ _ w.heap.size (w.heap.size + 1) 88 89 (words h8) (words k64) (0, 0) (0, 0) _ _ rfl ?_ und47 rfl size47 rfl ?_ und48 rfl size48) rfl ⟨rfl, ?_⟩
  · rw [setRow_other _ _ _ _ (by omega)]; exact setRow_heap _ _ _ _ _ _ (heap_alloc2_old w _ _)
  · exact setRow_heap _ _ (words (zz 64)) _ _ _ ((setRow_other _ _ _ _ (by omega)).trans (heap_alloc2_new w _ _))
  · exact Below.setRow (Below.setRow (((Below.refl _ _).alloc (Nat.le_refl _) _).alloc (by simp) _) (Nat.le_refl _) _) (by omega) _

end Go.Proofs.YtkgbldkjpohinaaDoor
