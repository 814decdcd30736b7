/- lazaretref2.constants: two new slices, the constants and the first state. -/
import Derived.Great.BuildSlice
import Derived.Deep.DeepMust
import Derived.Test.YtkgbldkjpohinaaGreatDoorRowN
import Derived.Test.YtkgbldkjpohinaaGreatDoorTypes
namespace Go.Proofs.YtkgbldkjpohinaaGreatDoor
open Go.RowKit
theorem und53 : Tryz.prog.underlying 91 = some (.slice 107) := by kernel_rfl
theorem zero46 : ((Tryz.prog.info? 107).bind (·.zero)).isSome = true := by kernel_rfl
theorem info55 : (Tryz.prog.info? 93).map (·.zero) = some (some (.agg #[.slice none 0 0, .slice none 0 0])) := by kernel_rfl
theorem size55 : (Tryz.prog.info? 93).map (·.size) = some 2 := by kernel_rfl
set_option maxRecDepth 100000 in
set_option maxHeartbeats 1000000 in
theorem constants_any (w : World) :
    Calls Tryz.prog 38 #[] w fun e w' => ∃ bk bh, e = .returned (.agg #[.slice (some ⟨bk, 0, none⟩) 64 64, .slice (some ⟨bh, 0, none⟩) 8 8]) ∧ Row32 w' bk 107 k64 ∧ Row32 w' bh 107 h8 ∧ Below w.heap.size w w' ∧ w.heap.size ≤ bk ∧ w.heap.size ≤ bh := by
  go_enter Tryz.func38, Tryz.ntmps38
  go_wp2_with (first
    | ((with_reducible show wpList _ _ _ (⟨some 1, _, _, _, _, _⟩ :: _) _ _); go_must (refine wpList_buildFlat rfl 91 107 64 _ rfl .u32 k64 und53 size46 zero46 rfl (by decide) (by decide) (by kernel_rfl) ?_); simp only [Act.put, List.setIfInBounds_toArray, List.set_cons_zero, List.set_cons_succ, World.size_alloc])
    | ((with_reducible show wpList _ _ _ (⟨some 2, _, _, _, _, _⟩ :: _) _ _); go_must (refine wpList_buildFlat rfl 91 107 8 _ rfl .u32 h8 und53 size46 zero46 rfl (by decide) (by decide) (by kernel_rfl) ?_); simp only [Act.put, List.setIfInBounds_toArray, List.set_cons_zero, List.set_cons_succ, World.size_alloc]))
  refine bodyPost_ret (v := .agg #[.slice (some ⟨w.heap.size + 1, 0, none⟩) 64 64, .slice (some ⟨w.heap.size + 1 + 1, 0, none⟩) 8 8]) (by simp [results, Tryz.results38, go_sem]) rfl ⟨_, _, rfl, ?_, ?_, ?_, by omega, by omega⟩
  · have h := Row32.new (w.alloc (Obj.cells #[Value.slice (some ⟨w.heap.size + 1, 0, none⟩) 64 64, Value.slice (some ⟨w.heap.size + 1 + 1, 0, none⟩) 8 8] 93)) 107 k64
    rw [World.size_alloc] at h
    exact h.alloc _
  · have h := Row32.new ((w.alloc (Obj.cells #[Value.slice (some ⟨w.heap.size + 1, 0, none⟩) 64 64, Value.slice (some ⟨w.heap.size + 1 + 1, 0, none⟩) 8 8] 93)).alloc (Obj.cells (List.map (Value.int IntKind.u32) k64).toArray 107)) 107 h8
    rw [World.size_alloc, World.size_alloc] at h
    exact h
  · exact (((Below.refl _ _).alloc (Nat.le_refl _) _).alloc (by simp) _).alloc (by simp; omega) _
end Go.Proofs.YtkgbldkjpohinaaGreatDoor
