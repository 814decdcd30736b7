/- lazaretref2.constants: two new slices, the constants and the first state. -/
import Derived.Great.BuildSlice
import Derived.Deep.DeepMust
import Derived.Test.YtkgbldkjpohinaaDoorRowN
import Derived.Test.YtkgbldkjpohinaaDoorTypes
namespace Go.Proofs.YtkgbldkjpohinaaDoor
open Go.RowKit
theorem und53 : Tryd.prog.underlying 44 = some (.slice 76) := by kernel_rfl
theorem zero46 : ((Tryd.prog.info? 76).bind (·.zero)).isSome = true := by kernel_rfl
theorem info55 : (Tryd.prog.info? 46).map (·.zero) = some (some (.agg #[.slice none 0 0, .slice none 0 0])) := by kernel_rfl
theorem size55 : (Tryd.prog.info? 46).map (·.size) = some 2 := by kernel_rfl
set_option maxRecDepth 100000 in
set_option maxHeartbeats 1000000 in
theorem constants_any (w : World) :
    Calls Tryd.prog 15 #[] w fun e w' => ∃ bk bh, e = .returned (.agg #[.slice (some ⟨bk, 0, none⟩) 64 64, .slice (some ⟨bh, 0, none⟩) 8 8]) ∧ Row32 w' bk 76 k64 ∧ Row32 w' bh 76 h8 ∧ Below w.heap.size w w' ∧ w.heap.size ≤ bk ∧ w.heap.size ≤ bh := by
  go_enter Tryd.func15, Tryd.ntmps15
  go_wp2_with (first
    | ((with_reducible show wpList _ _ _ (⟨some 1, _, _, _, _, _⟩ :: _) _ _); go_must (refine wpList_buildFlat rfl 44 76 64 _ rfl .u32 k64 und53 size46 zero46 rfl (by decide) (by decide) (by kernel_rfl) ?_); simp only [Act.put, List.setIfInBounds_toArray, List.set_cons_zero, List.set_cons_succ, World.size_alloc])
    | ((with_reducible show wpList _ _ _ (⟨some 2, _, _, _, _, _⟩ :: _) _ _); go_must (refine wpList_buildFlat rfl 44 76 8 _ rfl .u32 h8 und53 size46 zero46 rfl (by decide) (by decide) (by kernel_rfl) ?_); simp only [Act.put, List.setIfInBounds_toArray, List.set_cons_zero, List.set_cons_succ, World.size_alloc]))
  refine bodyPost_ret (v := .agg #[.slice (some ⟨w.heap.size + 1, 0, none⟩) 64 64, .slice (some ⟨w.heap.size + 1 + 1, 0, none⟩) 8 8]) (by simp [results, Tryd.results15, go_sem]) rfl ⟨_, _, rfl, ?_, ?_, ?_, by omega, by omega⟩
  · have h := Row32.new (w.alloc (Obj.cells #[Value.slice (some ⟨w.heap.size + 1, 0, none⟩) 64 64, Value.slice (some ⟨w.heap.size + 1 + 1, 0, none⟩) 8 8] 46)) 76 k64
    rw [World.size_alloc] at h
    exact h.alloc _
  · have h := Row32.new ((w.alloc (Obj.cells #[Value.slice (some ⟨w.heap.size + 1, 0, none⟩) 64 64, Value.slice (some ⟨w.heap.size + 1 + 1, 0, none⟩) 8 8] 46)).alloc (Obj.cells (List.map (Value.int IntKind.u32) k64).toArray 76)) 76 h8
    rw [World.size_alloc, World.size_alloc] at h
    exact h
  · exact (((Below.refl _ _).alloc (Nat.le_refl _) _).alloc (by simp) _).alloc (by simp; omega) _
end Go.Proofs.YtkgbldkjpohinaaDoor
