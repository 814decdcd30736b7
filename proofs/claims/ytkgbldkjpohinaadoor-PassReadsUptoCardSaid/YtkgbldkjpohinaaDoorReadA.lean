/- Read with no tries: it refuses. -/
import Derived.Test.YtkgbldkjpohinaaDoorLines
import Derived.Test.YtkgbldkjpohinaaDoorReadL
namespace Go.Proofs.YtkgbldkjpohinaaDoor
open Go.RowKit Go.Maps Go.Sort Go.Shelf
attribute [local go_sem] Oper.semAt_some
set_option linter.unusedVariables false
theorem new_arg (w : World) : Calls Tryd.prog 6 #[.int .i64 0, .int .i64 100] w fun e w' => e = .returned (.tuple #[.pointer none, .int .i64 1]) ∧ w' = w := by
  go_enter Tryd.func6, Tryd.ntmps6
  go_wp2
  refine bodyPost_ret (v := .tuple #[.pointer none, .int .i64 1]) (by simp [results, Tryd.f6, go_sem]) rfl ?_
  exact ⟨rfl, rfl⟩
set_option maxRecDepth 100000 in
set_option maxHeartbeats 8000000 in
theorem read_arg (s : ByteArray) (w : World) : Calls Tryd.prog 12 #[.string s, .int .i64 0, .int .i64 100] w fun e w' => e = .returned (.tuple #[.pointer none, .int .i64 1]) ∧ Below w.heap.size w w' := by
  refine (callsIn_wide (n := 9)).1 ?_
  refine callsIn_of_wp_marks Tryd.func12 rfl trivial ?_ rfl
  simp only [Tryd.ntmps12, List.size_toArray, List.length_cons, List.length_nil, Nat.reduceAdd, Nat.reduceSub, Array.replicate_succ, Array.replicate_zero, List.push_toArray, List.append_toArray, List.nil_append, List.cons_append]
  gi_wp2_with (first
    | (refine ⟨trivial, ?_⟩; gi_at_call 6; refine (callsIn_wide.2 (new_arg _)).mono ?_; rintro e w2 ⟨rfl, h2⟩; rw [h2]))
  have r0 : (((w.alloc (.cells #[.pointer none] 23)).alloc (.cells #[.int .i64 1] 24)).alloc (.cells #[.pointer none] 23)).heap[w.heap.size]? = some (.cells #[.pointer none] 23 (0, 0)) :=
    (Below.heap_alloc _ _ _ (by simp; omega)).trans ((Below.heap_alloc _ _ _ (by simp)).trans (World.alloc_heap_new w _))
  have r1 : (((w.alloc (.cells #[.pointer none] 23)).alloc (.cells #[.int .i64 1] 24)).alloc (.cells #[.pointer none] 23)).heap[w.heap.size + 1]? = some (.cells #[.int .i64 1] 24 (0, 0)) := by
    refine (Below.heap_alloc _ _ _ (by simp)).trans ?_
    have := World.alloc_heap_new (w.alloc (.cells #[.pointer none] 23)) (.cells #[.int .i64 1] 24)
    rwa [World.size_alloc] at this
  have e0 := cell_of_row _ _ 0 _ 23 (0, 0) r0
  have e1 := cell_of_row _ _ 0 _ 24 (0, 0) r1
  refine ⟨.tuple #[.pointer none, .int .i64 1], ?_, rfl, (((Below.refl _ _).alloc (Nat.le_refl _) _).alloc (by simp) _).alloc (by simp; omega) _⟩
  simp [results, Tryd.f12, go_sem, e0, e1]
end Go.Proofs.YtkgbldkjpohinaaDoor
