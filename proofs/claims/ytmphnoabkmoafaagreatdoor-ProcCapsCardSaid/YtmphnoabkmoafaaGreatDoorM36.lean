/- told steps into one call of the table, at each kind. -/
import Derived.Test.YtmphnoabkmoafaaGreatDoorM20
namespace Go.Proofs.YtmphnoabkmoafaaGreatDoor
open Go.RowKit Go.Maps
set_option linter.unusedVariables false
variable {uu0 : Unit} [Base uu0]
set_option maxRecDepth 100000 in
set_option maxHeartbeats 1000000 in
theorem told_0 (T : Nat) (kd a n E : Int) (b : Bool) (who to s : ByteArray) (a1 a2 a3 a4 : Option Addr) (n1 n2 n3 n4 c1 c2 c3 c4 : Nat) (w : World) (Q : World → Prop) (hk : kd = 0)
    (hK : Calls Tryz.prog 27 #[ptr T, .string who, .int .i64 a] (w.alloc (.cells #[.int .i64 kd, .int .i64 a, .string who, .string to, .slice a1 n1 c1, .slice a2 n2 c2, .slice a3 n3 c3, .slice a4 n4 c4] 36)) fun e w' => e = .returned (.tuple #[.string s, .int .i64 E]) ∧ Q w') :
    Calls Tryz.prog 10 #[ptr T, .agg #[.int .i64 kd, .int .i64 a, .string who, .string to, .slice a1 n1 c1, .slice a2 n2 c2, .slice a3 n3 c3, .slice a4 n4 c4]] w fun e w' => e = .returned (.tuple #[.int .i64 0, .string s, .int .i64 E]) ∧ Q w' := by
  obtain ⟨W, hW⟩ : ∃ W, W = w.alloc (.cells #[.int .i64 kd, .int .i64 a, .string who, .string to, .slice a1 n1 c1, .slice a2 n2 c2, .slice a3 n3 c3, .slice a4 n4 c4] 36) := ⟨_, rfl⟩
  have row : W.heap[w.heap.size]? = some (.cells #[.int .i64 kd, .int .i64 a, .string who, .string to, .slice a1 n1 c1, .slice a2 n2 c2, .slice a3 n3 c3, .slice a4 n4 c4] 36 (0, 0)) := by rw [hW]; exact heap_alloc_new w _
  have x0 : W.cell? ⟨w.heap.size, 0, none⟩ = some (.int .i64 kd) := by rw [cell_of_row _ _ 0 _ 36 (0, 0) row]; rfl
  have x1 : W.cell? ⟨w.heap.size, 1, none⟩ = some (.int .i64 a) := by rw [cell_of_row _ _ 1 _ 36 (0, 0) row]; rfl
  have x2 : W.cell? ⟨w.heap.size, 2, none⟩ = some (.string who) := by rw [cell_of_row _ _ 2 _ 36 (0, 0) row]; rfl
  have x3 : W.cell? ⟨w.heap.size, 3, none⟩ = some (.string to) := by rw [cell_of_row _ _ 3 _ 36 (0, 0) row]; rfl
  have x4 : W.cell? ⟨w.heap.size, 4, none⟩ = some (.slice a1 n1 c1) := by rw [cell_of_row _ _ 4 _ 36 (0, 0) row]; rfl
  have x5 : W.cell? ⟨w.heap.size, 5, none⟩ = some (.slice a2 n2 c2) := by rw [cell_of_row _ _ 5 _ 36 (0, 0) row]; rfl
  have x6 : W.cell? ⟨w.heap.size, 6, none⟩ = some (.slice a3 n3 c3) := by rw [cell_of_row _ _ 6 _ 36 (0, 0) row]; rfl
  have x7 : W.cell? ⟨w.heap.size, 7, none⟩ = some (.slice a4 n4 c4) := by rw [cell_of_row _ _ 7 _ 36 (0, 0) row]; rfl
  rw [← hW] at hK
  obtain ⟨bx, hbx⟩ : ∃ bx, bx = w.heap.size := ⟨_, rfl⟩
  rw [← hbx] at x0 x1 x2 x3 x4 x5 x6 x7
  clear row
  subst hk
  unfold ptr at *
  go_enter Tryz.func10, Tryz.ntmps10
  go_upto_region 1 with (fail)
  rw [← hW, ← hbx]
  clear hW hbx
  go_wp2_with (go_at_call 27; refine hK.mono ?_; rintro e w1 ⟨rfl, hQ⟩)
  go_ret3
  exact ⟨rfl, hQ⟩
set_option maxRecDepth 100000 in
set_option maxHeartbeats 1000000 in
theorem told_1 (T : Nat) (kd a n E : Int) (b : Bool) (who to s : ByteArray) (a1 a2 a3 a4 : Option Addr) (n1 n2 n3 n4 c1 c2 c3 c4 : Nat) (w : World) (Q : World → Prop) (hk : kd = 1)
    (hK : Calls Tryz.prog 28 #[ptr T, .string who, .int .i64 a] (w.alloc (.cells #[.int .i64 kd, .int .i64 a, .string who, .string to, .slice a1 n1 c1, .slice a2 n2 c2, .slice a3 n3 c3, .slice a4 n4 c4] 36)) fun e w' => e = .returned (.int .i64 E) ∧ Q w') :
    Calls Tryz.prog 10 #[ptr T, .agg #[.int .i64 kd, .int .i64 a, .string who, .string to, .slice a1 n1 c1, .slice a2 n2 c2, .slice a3 n3 c3, .slice a4 n4 c4]] w fun e w' => e = .returned (.tuple #[.int .i64 0, .string ⟨#[]⟩, .int .i64 E]) ∧ Q w' := by
  obtain ⟨W, hW⟩ : ∃ W, W = w.alloc (.cells #[.int .i64 kd, .int .i64 a, .string who, .string to, .slice a1 n1 c1, .slice a2 n2 c2, .slice a3 n3 c3, .slice a4 n4 c4] 36) := ⟨_, rfl⟩
  have row : W.heap[w.heap.size]? = some (.cells #[.int .i64 kd, .int .i64 a, .string who, .string to, .slice a1 n1 c1, .slice a2 n2 c2, .slice a3 n3 c3, .slice a4 n4 c4] 36 (0, 0)) := by rw [hW]; exact heap_alloc_new w _
  have x0 : W.cell? ⟨w.heap.size, 0, none⟩ = some (.int .i64 kd) := by rw [cell_of_row _ _ 0 _ 36 (0, 0) row]; rfl
  have x1 : W.cell? ⟨w.heap.size, 1, none⟩ = some (.int .i64 a) := by rw [cell_of_row _ _ 1 _ 36 (0, 0) row]; rfl
  have x2 : W.cell? ⟨w.heap.size, 2, none⟩ = some (.string who) := by rw [cell_of_row _ _ 2 _ 36 (0, 0) row]; rfl
  have x3 : W.cell? ⟨w.heap.size, 3, none⟩ = some (.string to) := by rw [cell_of_row _ _ 3 _ 36 (0, 0) row]; rfl
  have x4 : W.cell? ⟨w.heap.size, 4, none⟩ = some (.slice a1 n1 c1) := by rw [cell_of_row _ _ 4 _ 36 (0, 0) row]; rfl
  have x5 : W.cell? ⟨w.heap.size, 5, none⟩ = some (.slice a2 n2 c2) := by rw [cell_of_row _ _ 5 _ 36 (0, 0) row]; rfl
  have x6 : W.cell? ⟨w.heap.size, 6, none⟩ = some (.slice a3 n3 c3) := by rw [cell_of_row _ _ 6 _ 36 (0, 0) row]; rfl
  have x7 : W.cell? ⟨w.heap.size, 7, none⟩ = some (.slice a4 n4 c4) := by rw [cell_of_row _ _ 7 _ 36 (0, 0) row]; rfl
  rw [← hW] at hK
  obtain ⟨bx, hbx⟩ : ∃ bx, bx = w.heap.size := ⟨_, rfl⟩
  rw [← hbx] at x0 x1 x2 x3 x4 x5 x6 x7
  clear row
  subst hk
  unfold ptr at *
  go_enter Tryz.func10, Tryz.ntmps10
  go_upto_region 1 with (fail)
  rw [← hW, ← hbx]
  clear hW hbx
  go_wp2_with (go_at_call 28; refine hK.mono ?_; rintro e w1 ⟨rfl, hQ⟩)
  go_ret3
  exact ⟨rfl, hQ⟩
set_option maxRecDepth 100000 in
set_option maxHeartbeats 1000000 in
theorem told_2 (T : Nat) (kd a n E : Int) (b : Bool) (who to s : ByteArray) (a1 a2 a3 a4 : Option Addr) (n1 n2 n3 n4 c1 c2 c3 c4 : Nat) (w : World) (Q : World → Prop) (hk : kd = 2)
    (hK : Calls Tryz.prog 29 #[ptr T, .string who] (w.alloc (.cells #[.int .i64 kd, .int .i64 a, .string who, .string to, .slice a1 n1 c1, .slice a2 n2 c2, .slice a3 n3 c3, .slice a4 n4 c4] 36)) fun e w' => e = .returned (.tuple #[.string s, .int .i64 n, .int .i64 E]) ∧ Q w') :
    Calls Tryz.prog 10 #[ptr T, .agg #[.int .i64 kd, .int .i64 a, .string who, .string to, .slice a1 n1 c1, .slice a2 n2 c2, .slice a3 n3 c3, .slice a4 n4 c4]] w fun e w' => e = .returned (.tuple #[.int .i64 n, .string s, .int .i64 E]) ∧ Q w' := by
  obtain ⟨W, hW⟩ : ∃ W, W = w.alloc (.cells #[.int .i64 kd, .int .i64 a, .string who, .string to, .slice a1 n1 c1, .slice a2 n2 c2, .slice a3 n3 c3, .slice a4 n4 c4] 36) := ⟨_, rfl⟩
  have row : W.heap[w.heap.size]? = some (.cells #[.int .i64 kd, .int .i64 a, .string who, .string to, .slice a1 n1 c1, .slice a2 n2 c2, .slice a3 n3 c3, .slice a4 n4 c4] 36 (0, 0)) := by rw [hW]; exact heap_alloc_new w _
  have x0 : W.cell? ⟨w.heap.size, 0, none⟩ = some (.int .i64 kd) := by rw [cell_of_row _ _ 0 _ 36 (0, 0) row]; rfl
  have x1 : W.cell? ⟨w.heap.size, 1, none⟩ = some (.int .i64 a) := by rw [cell_of_row _ _ 1 _ 36 (0, 0) row]; rfl
  have x2 : W.cell? ⟨w.heap.size, 2, none⟩ = some (.string who) := by rw [cell_of_row _ _ 2 _ 36 (0, 0) row]; rfl
  have x3 : W.cell? ⟨w.heap.size, 3, none⟩ = some (.string to) := by rw [cell_of_row _ _ 3 _ 36 (0, 0) row]; rfl
  have x4 : W.cell? ⟨w.heap.size, 4, none⟩ = some (.slice a1 n1 c1) := by rw [cell_of_row _ _ 4 _ 36 (0, 0) row]; rfl
  have x5 : W.cell? ⟨w.heap.size, 5, none⟩ = some (.slice a2 n2 c2) := by rw [cell_of_row _ _ 5 _ 36 (0, 0) row]; rfl
  have x6 : W.cell? ⟨w.heap.size, 6, none⟩ = some (.slice a3 n3 c3) := by rw [cell_of_row _ _ 6 _ 36 (0, 0) row]; rfl
  have x7 : W.cell? ⟨w.heap.size, 7, none⟩ = some (.slice a4 n4 c4) := by rw [cell_of_row _ _ 7 _ 36 (0, 0) row]; rfl
  rw [← hW] at hK
  obtain ⟨bx, hbx⟩ : ∃ bx, bx = w.heap.size := ⟨_, rfl⟩
  rw [← hbx] at x0 x1 x2 x3 x4 x5 x6 x7
  clear row
  subst hk
  unfold ptr at *
  go_enter Tryz.func10, Tryz.ntmps10
  go_upto_region 1 with (fail)
  rw [← hW, ← hbx]
  clear hW hbx
  go_wp2_with (go_at_call 29; refine hK.mono ?_; rintro e w1 ⟨rfl, hQ⟩)
  go_ret3
  exact ⟨rfl, hQ⟩
set_option maxRecDepth 100000 in
set_option maxHeartbeats 1000000 in
theorem told_3 (T : Nat) (kd a n E : Int) (b : Bool) (who to s : ByteArray) (a1 a2 a3 a4 : Option Addr) (n1 n2 n3 n4 c1 c2 c3 c4 : Nat) (w : World) (Q : World → Prop) (hk : kd = 3)
    (hK : Calls Tryz.prog 7 #[ptr T, .string who] (w.alloc (.cells #[.int .i64 kd, .int .i64 a, .string who, .string to, .slice a1 n1 c1, .slice a2 n2 c2, .slice a3 n3 c3, .slice a4 n4 c4] 36)) fun e w' => e = .returned (.tuple #[.int .i64 n, .int .i64 E]) ∧ Q w') :
    Calls Tryz.prog 10 #[ptr T, .agg #[.int .i64 kd, .int .i64 a, .string who, .string to, .slice a1 n1 c1, .slice a2 n2 c2, .slice a3 n3 c3, .slice a4 n4 c4]] w fun e w' => e = .returned (.tuple #[.int .i64 n, .string ⟨#[]⟩, .int .i64 E]) ∧ Q w' := by
  obtain ⟨W, hW⟩ : ∃ W, W = w.alloc (.cells #[.int .i64 kd, .int .i64 a, .string who, .string to, .slice a1 n1 c1, .slice a2 n2 c2, .slice a3 n3 c3, .slice a4 n4 c4] 36) := ⟨_, rfl⟩
  have row : W.heap[w.heap.size]? = some (.cells #[.int .i64 kd, .int .i64 a, .string who, .string to, .slice a1 n1 c1, .slice a2 n2 c2, .slice a3 n3 c3, .slice a4 n4 c4] 36 (0, 0)) := by rw [hW]; exact heap_alloc_new w _
  have x0 : W.cell? ⟨w.heap.size, 0, none⟩ = some (.int .i64 kd) := by rw [cell_of_row _ _ 0 _ 36 (0, 0) row]; rfl
  have x1 : W.cell? ⟨w.heap.size, 1, none⟩ = some (.int .i64 a) := by rw [cell_of_row _ _ 1 _ 36 (0, 0) row]; rfl
  have x2 : W.cell? ⟨w.heap.size, 2, none⟩ = some (.string who) := by rw [cell_of_row _ _ 2 _ 36 (0, 0) row]; rfl
  have x3 : W.cell? ⟨w.heap.size, 3, none⟩ = some (.string to) := by rw [cell_of_row _ _ 3 _ 36 (0, 0) row]; rfl
  have x4 : W.cell? ⟨w.heap.size, 4, none⟩ = some (.slice a1 n1 c1) := by rw [cell_of_row _ _ 4 _ 36 (0, 0) row]; rfl
  have x5 : W.cell? ⟨w.heap.size, 5, none⟩ = some (.slice a2 n2 c2) := by rw [cell_of_row _ _ 5 _ 36 (0, 0) row]; rfl
  have x6 : W.cell? ⟨w.heap.size, 6, none⟩ = some (.slice a3 n3 c3) := by rw [cell_of_row _ _ 6 _ 36 (0, 0) row]; rfl
  have x7 : W.cell? ⟨w.heap.size, 7, none⟩ = some (.slice a4 n4 c4) := by rw [cell_of_row _ _ 7 _ 36 (0, 0) row]; rfl
  rw [← hW] at hK
  obtain ⟨bx, hbx⟩ : ∃ bx, bx = w.heap.size := ⟨_, rfl⟩
  rw [← hbx] at x0 x1 x2 x3 x4 x5 x6 x7
  clear row
  subst hk
  unfold ptr at *
  go_enter Tryz.func10, Tryz.ntmps10
  go_upto_region 1 with (fail)
  rw [← hW, ← hbx]
  clear hW hbx
  go_wp2_with (go_at_call 7; refine hK.mono ?_; rintro e w1 ⟨rfl, hQ⟩)
  go_ret3
  exact ⟨rfl, hQ⟩
set_option maxRecDepth 100000 in
set_option maxHeartbeats 1000000 in
theorem told_4 (T : Nat) (kd a n E : Int) (b : Bool) (who to s : ByteArray) (a1 a2 a3 a4 : Option Addr) (n1 n2 n3 n4 c1 c2 c3 c4 : Nat) (w : World) (Q : World → Prop) (hk : kd = 4)
    (hK : Calls Tryz.prog 30 #[ptr T, .string who, .agg #[.slice a1 n1 c1, .slice a2 n2 c2]] (w.alloc (.cells #[.int .i64 kd, .int .i64 a, .string who, .string to, .slice a1 n1 c1, .slice a2 n2 c2, .slice a3 n3 c3, .slice a4 n4 c4] 36)) fun e w' => e = .returned (.int .i64 E) ∧ Q w') :
    Calls Tryz.prog 10 #[ptr T, .agg #[.int .i64 kd, .int .i64 a, .string who, .string to, .slice a1 n1 c1, .slice a2 n2 c2, .slice a3 n3 c3, .slice a4 n4 c4]] w fun e w' => e = .returned (.tuple #[.int .i64 0, .string ⟨#[]⟩, .int .i64 E]) ∧ Q w' := by
  obtain ⟨W, hW⟩ : ∃ W, W = w.alloc (.cells #[.int .i64 kd, .int .i64 a, .string who, .string to, .slice a1 n1 c1, .slice a2 n2 c2, .slice a3 n3 c3, .slice a4 n4 c4] 36) := ⟨_, rfl⟩
  have row : W.heap[w.heap.size]? = some (.cells #[.int .i64 kd, .int .i64 a, .string who, .string to, .slice a1 n1 c1, .slice a2 n2 c2, .slice a3 n3 c3, .slice a4 n4 c4] 36 (0, 0)) := by rw [hW]; exact heap_alloc_new w _
  have x0 : W.cell? ⟨w.heap.size, 0, none⟩ = some (.int .i64 kd) := by rw [cell_of_row _ _ 0 _ 36 (0, 0) row]; rfl
  have x1 : W.cell? ⟨w.heap.size, 1, none⟩ = some (.int .i64 a) := by rw [cell_of_row _ _ 1 _ 36 (0, 0) row]; rfl
  have x2 : W.cell? ⟨w.heap.size, 2, none⟩ = some (.string who) := by rw [cell_of_row _ _ 2 _ 36 (0, 0) row]; rfl
  have x3 : W.cell? ⟨w.heap.size, 3, none⟩ = some (.string to) := by rw [cell_of_row _ _ 3 _ 36 (0, 0) row]; rfl
  have x4 : W.cell? ⟨w.heap.size, 4, none⟩ = some (.slice a1 n1 c1) := by rw [cell_of_row _ _ 4 _ 36 (0, 0) row]; rfl
  have x5 : W.cell? ⟨w.heap.size, 5, none⟩ = some (.slice a2 n2 c2) := by rw [cell_of_row _ _ 5 _ 36 (0, 0) row]; rfl
  have x6 : W.cell? ⟨w.heap.size, 6, none⟩ = some (.slice a3 n3 c3) := by rw [cell_of_row _ _ 6 _ 36 (0, 0) row]; rfl
  have x7 : W.cell? ⟨w.heap.size, 7, none⟩ = some (.slice a4 n4 c4) := by rw [cell_of_row _ _ 7 _ 36 (0, 0) row]; rfl
  rw [← hW] at hK
  obtain ⟨bx, hbx⟩ : ∃ bx, bx = w.heap.size := ⟨_, rfl⟩
  rw [← hbx] at x0 x1 x2 x3 x4 x5 x6 x7
  clear row
  subst hk
  unfold ptr at *
  go_enter Tryz.func10, Tryz.ntmps10
  go_upto_region 1 with (fail)
  rw [← hW, ← hbx]
  clear hW hbx
  go_wp2_with (go_at_call 30; refine hK.mono ?_; rintro e w1 ⟨rfl, hQ⟩)
  go_ret3
  exact ⟨rfl, hQ⟩
set_option maxRecDepth 100000 in
set_option maxHeartbeats 1000000 in
theorem told_5 (T : Nat) (kd a n E : Int) (b : Bool) (who to s : ByteArray) (a1 a2 a3 a4 : Option Addr) (n1 n2 n3 n4 c1 c2 c3 c4 : Nat) (w : World) (Q : World → Prop) (hk : kd = 5)
    (hK : Calls Tryz.prog 31 #[ptr T, .string who, .agg #[.slice a3 n3 c3, .slice a4 n4 c4]] (w.alloc (.cells #[.int .i64 kd, .int .i64 a, .string who, .string to, .slice a1 n1 c1, .slice a2 n2 c2, .slice a3 n3 c3, .slice a4 n4 c4] 36)) fun e w' => e = .returned (.int .i64 E) ∧ Q w') :
    Calls Tryz.prog 10 #[ptr T, .agg #[.int .i64 kd, .int .i64 a, .string who, .string to, .slice a1 n1 c1, .slice a2 n2 c2, .slice a3 n3 c3, .slice a4 n4 c4]] w fun e w' => e = .returned (.tuple #[.int .i64 0, .string ⟨#[]⟩, .int .i64 E]) ∧ Q w' := by
  obtain ⟨W, hW⟩ : ∃ W, W = w.alloc (.cells #[.int .i64 kd, .int .i64 a, .string who, .string to, .slice a1 n1 c1, .slice a2 n2 c2, .slice a3 n3 c3, .slice a4 n4 c4] 36) := ⟨_, rfl⟩
  have row : W.heap[w.heap.size]? = some (.cells #[.int .i64 kd, .int .i64 a, .string who, .string to, .slice a1 n1 c1, .slice a2 n2 c2, .slice a3 n3 c3, .slice a4 n4 c4] 36 (0, 0)) := by rw [hW]; exact heap_alloc_new w _
  have x0 : W.cell? ⟨w.heap.size, 0, none⟩ = some (.int .i64 kd) := by rw [cell_of_row _ _ 0 _ 36 (0, 0) row]; rfl
  have x1 : W.cell? ⟨w.heap.size, 1, none⟩ = some (.int .i64 a) := by rw [cell_of_row _ _ 1 _ 36 (0, 0) row]; rfl
  have x2 : W.cell? ⟨w.heap.size, 2, none⟩ = some (.string who) := by rw [cell_of_row _ _ 2 _ 36 (0, 0) row]; rfl
  have x3 : W.cell? ⟨w.heap.size, 3, none⟩ = some (.string to) := by rw [cell_of_row _ _ 3 _ 36 (0, 0) row]; rfl
  have x4 : W.cell? ⟨w.heap.size, 4, none⟩ = some (.slice a1 n1 c1) := by rw [cell_of_row _ _ 4 _ 36 (0, 0) row]; rfl
  have x5 : W.cell? ⟨w.heap.size, 5, none⟩ = some (.slice a2 n2 c2) := by rw [cell_of_row _ _ 5 _ 36 (0, 0) row]; rfl
  have x6 : W.cell? ⟨w.heap.size, 6, none⟩ = some (.slice a3 n3 c3) := by rw [cell_of_row _ _ 6 _ 36 (0, 0) row]; rfl
  have x7 : W.cell? ⟨w.heap.size, 7, none⟩ = some (.slice a4 n4 c4) := by rw [cell_of_row _ _ 7 _ 36 (0, 0) row]; rfl
  rw [← hW] at hK
  obtain ⟨bx, hbx⟩ : ∃ bx, bx = w.heap.size := ⟨_, rfl⟩
  rw [← hbx] at x0 x1 x2 x3 x4 x5 x6 x7
  clear row
  subst hk
  unfold ptr at *
  go_enter Tryz.func10, Tryz.ntmps10
  go_upto_region 1 with (fail)
  rw [← hW, ← hbx]
  clear hW hbx
  go_wp2_with (go_at_call 31; refine hK.mono ?_; rintro e w1 ⟨rfl, hQ⟩)
  go_ret3
  exact ⟨rfl, hQ⟩
set_option maxRecDepth 100000 in
set_option maxHeartbeats 1000000 in
theorem told_6 (T : Nat) (kd a n E : Int) (b : Bool) (who to s : ByteArray) (a1 a2 a3 a4 : Option Addr) (n1 n2 n3 n4 c1 c2 c3 c4 : Nat) (w : World) (Q : World → Prop) (hk : kd = 6)
    (hK : Calls Tryz.prog 32 #[ptr T, .string who, .string to, .agg #[.slice a3 n3 c3, .slice a4 n4 c4]] (w.alloc (.cells #[.int .i64 kd, .int .i64 a, .string who, .string to, .slice a1 n1 c1, .slice a2 n2 c2, .slice a3 n3 c3, .slice a4 n4 c4] 36)) fun e w' => e = .returned (.int .i64 E) ∧ Q w') :
    Calls Tryz.prog 10 #[ptr T, .agg #[.int .i64 kd, .int .i64 a, .string who, .string to, .slice a1 n1 c1, .slice a2 n2 c2, .slice a3 n3 c3, .slice a4 n4 c4]] w fun e w' => e = .returned (.tuple #[.int .i64 0, .string ⟨#[]⟩, .int .i64 E]) ∧ Q w' := by
  obtain ⟨W, hW⟩ : ∃ W, W = w.alloc (.cells #[.int .i64 kd, .int .i64 a, .string who, .string to, .slice a1 n1 c1, .slice a2 n2 c2, .slice a3 n3 c3, .slice a4 n4 c4] 36) := ⟨_, rfl⟩
  have row : W.heap[w.heap.size]? = some (.cells #[.int .i64 kd, .int .i64 a, .string who, .string to, .slice a1 n1 c1, .slice a2 n2 c2, .slice a3 n3 c3, .slice a4 n4 c4] 36 (0, 0)) := by rw [hW]; exact heap_alloc_new w _
  have x0 : W.cell? ⟨w.heap.size, 0, none⟩ = some (.int .i64 kd) := by rw [cell_of_row _ _ 0 _ 36 (0, 0) row]; rfl
  have x1 : W.cell? ⟨w.heap.size, 1, none⟩ = some (.int .i64 a) := by rw [cell_of_row _ _ 1 _ 36 (0, 0) row]; rfl
  have x2 : W.cell? ⟨w.heap.size, 2, none⟩ = some (.string who) := by rw [cell_of_row _ _ 2 _ 36 (0, 0) row]; rfl
  have x3 : W.cell? ⟨w.heap.size, 3, none⟩ = some (.string to) := by rw [cell_of_row _ _ 3 _ 36 (0, 0) row]; rfl
  have x4 : W.cell? ⟨w.heap.size, 4, none⟩ = some (.slice a1 n1 c1) := by rw [cell_of_row _ _ 4 _ 36 (0, 0) row]; rfl
  have x5 : W.cell? ⟨w.heap.size, 5, none⟩ = some (.slice a2 n2 c2) := by rw [cell_of_row _ _ 5 _ 36 (0, 0) row]; rfl
  have x6 : W.cell? ⟨w.heap.size, 6, none⟩ = some (.slice a3 n3 c3) := by rw [cell_of_row _ _ 6 _ 36 (0, 0) row]; rfl
  have x7 : W.cell? ⟨w.heap.size, 7, none⟩ = some (.slice a4 n4 c4) := by rw [cell_of_row _ _ 7 _ 36 (0, 0) row]; rfl
  rw [← hW] at hK
  obtain ⟨bx, hbx⟩ : ∃ bx, bx = w.heap.size := ⟨_, rfl⟩
  rw [← hbx] at x0 x1 x2 x3 x4 x5 x6 x7
  clear row
  subst hk
  unfold ptr at *
  go_enter Tryz.func10, Tryz.ntmps10
  go_upto_region 1 with (fail)
  rw [← hW, ← hbx]
  clear hW hbx
  go_wp2_with (go_at_call 32; refine hK.mono ?_; rintro e w1 ⟨rfl, hQ⟩)
  go_ret3
  exact ⟨rfl, hQ⟩
set_option maxRecDepth 100000 in
set_option maxHeartbeats 1000000 in
theorem told_7 (T : Nat) (kd a n E : Int) (b : Bool) (who to s : ByteArray) (a1 a2 a3 a4 : Option Addr) (n1 n2 n3 n4 c1 c2 c3 c4 : Nat) (w : World) (Q : World → Prop) (hk : kd = 7)
    (hK : Calls Tryz.prog 33 #[ptr T, .string who, .agg #[.slice a3 n3 c3, .slice a4 n4 c4]] (w.alloc (.cells #[.int .i64 kd, .int .i64 a, .string who, .string to, .slice a1 n1 c1, .slice a2 n2 c2, .slice a3 n3 c3, .slice a4 n4 c4] 36)) fun e w' => e = .returned (.int .i64 E) ∧ Q w') :
    Calls Tryz.prog 10 #[ptr T, .agg #[.int .i64 kd, .int .i64 a, .string who, .string to, .slice a1 n1 c1, .slice a2 n2 c2, .slice a3 n3 c3, .slice a4 n4 c4]] w fun e w' => e = .returned (.tuple #[.int .i64 0, .string ⟨#[]⟩, .int .i64 E]) ∧ Q w' := by
  obtain ⟨W, hW⟩ : ∃ W, W = w.alloc (.cells #[.int .i64 kd, .int .i64 a, .string who, .string to, .slice a1 n1 c1, .slice a2 n2 c2, .slice a3 n3 c3, .slice a4 n4 c4] 36) := ⟨_, rfl⟩
  have row : W.heap[w.heap.size]? = some (.cells #[.int .i64 kd, .int .i64 a, .string who, .string to, .slice a1 n1 c1, .slice a2 n2 c2, .slice a3 n3 c3, .slice a4 n4 c4] 36 (0, 0)) := by rw [hW]; exact heap_alloc_new w _
  have x0 : W.cell? ⟨w.heap.size, 0, none⟩ = some (.int .i64 kd) := by rw [cell_of_row _ _ 0 _ 36 (0, 0) row]; rfl
  have x1 : W.cell? ⟨w.heap.size, 1, none⟩ = some (.int .i64 a) := by rw [cell_of_row _ _ 1 _ 36 (0, 0) row]; rfl
  have x2 : W.cell? ⟨w.heap.size, 2, none⟩ = some (.string who) := by rw [cell_of_row _ _ 2 _ 36 (0, 0) row]; rfl
  have x3 : W.cell? ⟨w.heap.size, 3, none⟩ = some (.string to) := by rw [cell_of_row _ _ 3 _ 36 (0, 0) row]; rfl
  have x4 : W.cell? ⟨w.heap.size, 4, none⟩ = some (.slice a1 n1 c1) := by rw [cell_of_row _ _ 4 _ 36 (0, 0) row]; rfl
  have x5 : W.cell? ⟨w.heap.size, 5, none⟩ = some (.slice a2 n2 c2) := by rw [cell_of_row _ _ 5 _ 36 (0, 0) row]; rfl
  have x6 : W.cell? ⟨w.heap.size, 6, none⟩ = some (.slice a3 n3 c3) := by rw [cell_of_row _ _ 6 _ 36 (0, 0) row]; rfl
  have x7 : W.cell? ⟨w.heap.size, 7, none⟩ = some (.slice a4 n4 c4) := by rw [cell_of_row _ _ 7 _ 36 (0, 0) row]; rfl
  rw [← hW] at hK
  obtain ⟨bx, hbx⟩ : ∃ bx, bx = w.heap.size := ⟨_, rfl⟩
  rw [← hbx] at x0 x1 x2 x3 x4 x5 x6 x7
  clear row
  subst hk
  unfold ptr at *
  go_enter Tryz.func10, Tryz.ntmps10
  go_upto_region 1 with (fail)
  rw [← hW, ← hbx]
  clear hW hbx
  go_wp2_with (go_at_call 33; refine hK.mono ?_; rintro e w1 ⟨rfl, hQ⟩)
  go_ret3
  exact ⟨rfl, hQ⟩
set_option maxRecDepth 100000 in
set_option maxHeartbeats 1000000 in
theorem told_8 (T : Nat) (kd a n E : Int) (b : Bool) (who to s : ByteArray) (a1 a2 a3 a4 : Option Addr) (n1 n2 n3 n4 c1 c2 c3 c4 : Nat) (w : World) (Q : World → Prop) (hk : kd = 8)
    (hK : Calls Tryz.prog 34 #[ptr T, .string who, .string to, .int .i64 a] (w.alloc (.cells #[.int .i64 kd, .int .i64 a, .string who, .string to, .slice a1 n1 c1, .slice a2 n2 c2, .slice a3 n3 c3, .slice a4 n4 c4] 36)) fun e w' => e = .returned (.int .i64 E) ∧ Q w') :
    Calls Tryz.prog 10 #[ptr T, .agg #[.int .i64 kd, .int .i64 a, .string who, .string to, .slice a1 n1 c1, .slice a2 n2 c2, .slice a3 n3 c3, .slice a4 n4 c4]] w fun e w' => e = .returned (.tuple #[.int .i64 0, .string ⟨#[]⟩, .int .i64 E]) ∧ Q w' := by
  obtain ⟨W, hW⟩ : ∃ W, W = w.alloc (.cells #[.int .i64 kd, .int .i64 a, .string who, .string to, .slice a1 n1 c1, .slice a2 n2 c2, .slice a3 n3 c3, .slice a4 n4 c4] 36) := ⟨_, rfl⟩
  have row : W.heap[w.heap.size]? = some (.cells #[.int .i64 kd, .int .i64 a, .string who, .string to, .slice a1 n1 c1, .slice a2 n2 c2, .slice a3 n3 c3, .slice a4 n4 c4] 36 (0, 0)) := by rw [hW]; exact heap_alloc_new w _
  have x0 : W.cell? ⟨w.heap.size, 0, none⟩ = some (.int .i64 kd) := by rw [cell_of_row _ _ 0 _ 36 (0, 0) row]; rfl
  have x1 : W.cell? ⟨w.heap.size, 1, none⟩ = some (.int .i64 a) := by rw [cell_of_row _ _ 1 _ 36 (0, 0) row]; rfl
  have x2 : W.cell? ⟨w.heap.size, 2, none⟩ = some (.string who) := by rw [cell_of_row _ _ 2 _ 36 (0, 0) row]; rfl
  have x3 : W.cell? ⟨w.heap.size, 3, none⟩ = some (.string to) := by rw [cell_of_row _ _ 3 _ 36 (0, 0) row]; rfl
  have x4 : W.cell? ⟨w.heap.size, 4, none⟩ = some (.slice a1 n1 c1) := by rw [cell_of_row _ _ 4 _ 36 (0, 0) row]; rfl
  have x5 : W.cell? ⟨w.heap.size, 5, none⟩ = some (.slice a2 n2 c2) := by rw [cell_of_row _ _ 5 _ 36 (0, 0) row]; rfl
  have x6 : W.cell? ⟨w.heap.size, 6, none⟩ = some (.slice a3 n3 c3) := by rw [cell_of_row _ _ 6 _ 36 (0, 0) row]; rfl
  have x7 : W.cell? ⟨w.heap.size, 7, none⟩ = some (.slice a4 n4 c4) := by rw [cell_of_row _ _ 7 _ 36 (0, 0) row]; rfl
  rw [← hW] at hK
  obtain ⟨bx, hbx⟩ : ∃ bx, bx = w.heap.size := ⟨_, rfl⟩
  rw [← hbx] at x0 x1 x2 x3 x4 x5 x6 x7
  clear row
  subst hk
  unfold ptr at *
  go_enter Tryz.func10, Tryz.ntmps10
  go_upto_region 1 with (fail)
  rw [← hW, ← hbx]
  clear hW hbx
  go_wp2_with (go_at_call 34; refine hK.mono ?_; rintro e w1 ⟨rfl, hQ⟩)
  go_ret3
  exact ⟨rfl, hQ⟩
set_option maxRecDepth 100000 in
set_option maxHeartbeats 1000000 in
theorem told_9 (T : Nat) (kd a n E : Int) (b : Bool) (who to s : ByteArray) (a1 a2 a3 a4 : Option Addr) (n1 n2 n3 n4 c1 c2 c3 c4 : Nat) (w : World) (Q : World → Prop) (hk : kd = 9)
    (hK : Calls Tryz.prog 35 #[ptr T, .string who, .int .i64 a] (w.alloc (.cells #[.int .i64 kd, .int .i64 a, .string who, .string to, .slice a1 n1 c1, .slice a2 n2 c2, .slice a3 n3 c3, .slice a4 n4 c4] 36)) fun e w' => e = .returned (.tuple #[.int .i64 n, .int .i64 E]) ∧ Q w') :
    Calls Tryz.prog 10 #[ptr T, .agg #[.int .i64 kd, .int .i64 a, .string who, .string to, .slice a1 n1 c1, .slice a2 n2 c2, .slice a3 n3 c3, .slice a4 n4 c4]] w fun e w' => e = .returned (.tuple #[.int .i64 n, .string ⟨#[]⟩, .int .i64 E]) ∧ Q w' := by
  obtain ⟨W, hW⟩ : ∃ W, W = w.alloc (.cells #[.int .i64 kd, .int .i64 a, .string who, .string to, .slice a1 n1 c1, .slice a2 n2 c2, .slice a3 n3 c3, .slice a4 n4 c4] 36) := ⟨_, rfl⟩
  have row : W.heap[w.heap.size]? = some (.cells #[.int .i64 kd, .int .i64 a, .string who, .string to, .slice a1 n1 c1, .slice a2 n2 c2, .slice a3 n3 c3, .slice a4 n4 c4] 36 (0, 0)) := by rw [hW]; exact heap_alloc_new w _
  have x0 : W.cell? ⟨w.heap.size, 0, none⟩ = some (.int .i64 kd) := by rw [cell_of_row _ _ 0 _ 36 (0, 0) row]; rfl
  have x1 : W.cell? ⟨w.heap.size, 1, none⟩ = some (.int .i64 a) := by rw [cell_of_row _ _ 1 _ 36 (0, 0) row]; rfl
  have x2 : W.cell? ⟨w.heap.size, 2, none⟩ = some (.string who) := by rw [cell_of_row _ _ 2 _ 36 (0, 0) row]; rfl
  have x3 : W.cell? ⟨w.heap.size, 3, none⟩ = some (.string to) := by rw [cell_of_row _ _ 3 _ 36 (0, 0) row]; rfl
  have x4 : W.cell? ⟨w.heap.size, 4, none⟩ = some (.slice a1 n1 c1) := by rw [cell_of_row _ _ 4 _ 36 (0, 0) row]; rfl
  have x5 : W.cell? ⟨w.heap.size, 5, none⟩ = some (.slice a2 n2 c2) := by rw [cell_of_row _ _ 5 _ 36 (0, 0) row]; rfl
  have x6 : W.cell? ⟨w.heap.size, 6, none⟩ = some (.slice a3 n3 c3) := by rw [cell_of_row _ _ 6 _ 36 (0, 0) row]; rfl
  have x7 : W.cell? ⟨w.heap.size, 7, none⟩ = some (.slice a4 n4 c4) := by rw [cell_of_row _ _ 7 _ 36 (0, 0) row]; rfl
  rw [← hW] at hK
  obtain ⟨bx, hbx⟩ : ∃ bx, bx = w.heap.size := ⟨_, rfl⟩
  rw [← hbx] at x0 x1 x2 x3 x4 x5 x6 x7
  clear row
  subst hk
  unfold ptr at *
  go_enter Tryz.func10, Tryz.ntmps10
  go_upto_region 1 with (fail)
  rw [← hW, ← hbx]
  clear hW hbx
  go_wp2_with (go_at_call 35; refine hK.mono ?_; rintro e w1 ⟨rfl, hQ⟩)
  go_ret3
  exact ⟨rfl, hQ⟩
set_option maxRecDepth 100000 in
set_option maxHeartbeats 1000000 in
theorem told_10 (T : Nat) (kd a n E : Int) (b : Bool) (who to s : ByteArray) (a1 a2 a3 a4 : Option Addr) (n1 n2 n3 n4 c1 c2 c3 c4 : Nat) (w : World) (Q : World → Prop) (hk : ∀ i : Int, 0 ≤ i → i ≤ 9 → kd ≠ i)
    (hK : Calls Tryz.prog 36 #[ptr T, .string who] (w.alloc (.cells #[.int .i64 kd, .int .i64 a, .string who, .string to, .slice a1 n1 c1, .slice a2 n2 c2, .slice a3 n3 c3, .slice a4 n4 c4] 36)) fun e w' => e = .returned (.tuple #[.int .i64 n, .bool b]) ∧ Q w') :
    Calls Tryz.prog 10 #[ptr T, .agg #[.int .i64 kd, .int .i64 a, .string who, .string to, .slice a1 n1 c1, .slice a2 n2 c2, .slice a3 n3 c3, .slice a4 n4 c4]] w fun e w' => e = .returned (.tuple #[.int .i64 n, .string (if b then ⟨#[121, 101, 115]⟩ else ⟨#[]⟩), .int .i64 0]) ∧ Q w' := by
  obtain ⟨W, hW⟩ : ∃ W, W = w.alloc (.cells #[.int .i64 kd, .int .i64 a, .string who, .string to, .slice a1 n1 c1, .slice a2 n2 c2, .slice a3 n3 c3, .slice a4 n4 c4] 36) := ⟨_, rfl⟩
  have row : W.heap[w.heap.size]? = some (.cells #[.int .i64 kd, .int .i64 a, .string who, .string to, .slice a1 n1 c1, .slice a2 n2 c2, .slice a3 n3 c3, .slice a4 n4 c4] 36 (0, 0)) := by rw [hW]; exact heap_alloc_new w _
  have x0 : W.cell? ⟨w.heap.size, 0, none⟩ = some (.int .i64 kd) := by rw [cell_of_row _ _ 0 _ 36 (0, 0) row]; rfl
  have x1 : W.cell? ⟨w.heap.size, 1, none⟩ = some (.int .i64 a) := by rw [cell_of_row _ _ 1 _ 36 (0, 0) row]; rfl
  have x2 : W.cell? ⟨w.heap.size, 2, none⟩ = some (.string who) := by rw [cell_of_row _ _ 2 _ 36 (0, 0) row]; rfl
  have x3 : W.cell? ⟨w.heap.size, 3, none⟩ = some (.string to) := by rw [cell_of_row _ _ 3 _ 36 (0, 0) row]; rfl
  have x4 : W.cell? ⟨w.heap.size, 4, none⟩ = some (.slice a1 n1 c1) := by rw [cell_of_row _ _ 4 _ 36 (0, 0) row]; rfl
  have x5 : W.cell? ⟨w.heap.size, 5, none⟩ = some (.slice a2 n2 c2) := by rw [cell_of_row _ _ 5 _ 36 (0, 0) row]; rfl
  have x6 : W.cell? ⟨w.heap.size, 6, none⟩ = some (.slice a3 n3 c3) := by rw [cell_of_row _ _ 6 _ 36 (0, 0) row]; rfl
  have x7 : W.cell? ⟨w.heap.size, 7, none⟩ = some (.slice a4 n4 c4) := by rw [cell_of_row _ _ 7 _ 36 (0, 0) row]; rfl
  rw [← hW] at hK
  obtain ⟨bx, hbx⟩ : ∃ bx, bx = w.heap.size := ⟨_, rfl⟩
  rw [← hbx] at x0 x1 x2 x3 x4 x5 x6 x7
  clear row
  have d0 : (kd == 0) = false := beq_eq_false_iff_ne.2 (hk 0 (by decide) (by decide))
  have d1 : (kd == 1) = false := beq_eq_false_iff_ne.2 (hk 1 (by decide) (by decide))
  have d2 : (kd == 2) = false := beq_eq_false_iff_ne.2 (hk 2 (by decide) (by decide))
  have d3 : (kd == 3) = false := beq_eq_false_iff_ne.2 (hk 3 (by decide) (by decide))
  have d4 : (kd == 4) = false := beq_eq_false_iff_ne.2 (hk 4 (by decide) (by decide))
  have d5 : (kd == 5) = false := beq_eq_false_iff_ne.2 (hk 5 (by decide) (by decide))
  have d6 : (kd == 6) = false := beq_eq_false_iff_ne.2 (hk 6 (by decide) (by decide))
  have d7 : (kd == 7) = false := beq_eq_false_iff_ne.2 (hk 7 (by decide) (by decide))
  have d8 : (kd == 8) = false := beq_eq_false_iff_ne.2 (hk 8 (by decide) (by decide))
  have d9 : (kd == 9) = false := beq_eq_false_iff_ne.2 (hk 9 (by decide) (by decide))
  clear hk
  unfold ptr at *
  go_enter Tryz.func10, Tryz.ntmps10
  go_upto_region 1 with (fail)
  rw [← hW, ← hbx]
  clear hW hbx
  cases b
  · go_wp2_with (go_at_call 36; refine hK.mono ?_; rintro e w1 ⟨rfl, hQ⟩)
    go_ret3
    exact ⟨rfl, hQ⟩
  · go_wp2_with (go_at_call 36; refine hK.mono ?_; rintro e w1 ⟨rfl, hQ⟩)
    go_ret3
    exact ⟨rfl, hQ⟩
end Go.Proofs.YtmphnoabkmoafaaGreatDoor
