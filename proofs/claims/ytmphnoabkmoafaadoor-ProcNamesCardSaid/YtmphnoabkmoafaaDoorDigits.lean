/- The reference's Digits, of one digit. -/
import Derived.Test.YtmphnoabkmoafaaDoorGame
namespace Go.Proofs.YtmphnoabkmoafaaDoor
open Go.RowKit Go.Maps
set_option linter.unusedVariables false
theorem und76 : Tryd.prog.underlying 76 = some (.slice 5) := by kernel_rfl
theorem und5 : Tryd.prog.underlying 5 = some (.int .u8) := by kernel_rfl
theorem und9s : Tryd.prog.underlying 9 = some .string := by kernel_rfl
set_option maxRecDepth 100000 in
set_option maxHeartbeats 1000000 in
theorem digits_any (n : Int) (w : World) (h0 : 0 ≤ n) (h1 : n < 10) : Calls Tryd.prog 14 #[.int .i64 n] w fun e w' => e = .returned (.string (digs n)) ∧ Below w.heap.size w w' := by
  have hd := digs_one h0 h1
  have d9 : ¬ 9 < n := by omega
  have hm : n % 256 = n := by omega
  have hm2 : (48 + n) % 256 = 48 + n := by omega
  have hb : Below w.heap.size w (w.alloc (Obj.cells #[Value.int IntKind.u8 (48 + n)] 5)) := (Below.refl _ _).alloc (Nat.le_refl _) _
  have hc : (convert 76 9 (.slice (some ⟨w.heap.size, 0, none⟩) 1 1)).run Tryd.prog (w.alloc (Obj.cells #[Value.int IntKind.u8 (48 + n)] 5)) = .ok (.string (digs n)) (w.alloc (Obj.cells #[Value.int IntKind.u8 (48 + n)] 5)) := by
    have := run_convert_bytes_arg (P := Tryd.prog) (w.alloc (Obj.cells #[Value.int IntKind.u8 (48 + n)] 5)) 76 5 und76 und5 w.heap.size 0 1 1 [48 + n] rfl (fun j hj => by
      obtain rfl : j = 0 := by simpa using hj
      rw [cell_of_row _ _ _ _ 5 (0, 0) (heap_alloc_new w _)]
      rfl) 9 und9s
    rw [this, hd]
    simp only [strOfNums, List.map_cons, List.map_nil]
    rw [show (48 + n).toNat = 48 + n.toNat by omega]
  have hDs : (digs n).size = 1 := digs_size n h0 h1
  generalize digs n = D at *
  clear hd
  go_enter Tryd.func14, Tryd.ntmps14
  go_wp2
  go_loop [0, 3] (fun a b => a = .int .i64 n ∧ b = .string ⟨#[]⟩) (fun _ _ => 0)
  case atStart => exact ⟨rfl, rfl⟩
  case round =>
    obtain ⟨rfl, rfl⟩ := hrel
    go_wp2

    go_ret
    exact ⟨by rw [show D ++ ({ data := #[] } : ByteArray) = D from ByteArray.append_empty]; rfl, hb⟩
end Go.Proofs.YtmphnoabkmoafaaDoor
