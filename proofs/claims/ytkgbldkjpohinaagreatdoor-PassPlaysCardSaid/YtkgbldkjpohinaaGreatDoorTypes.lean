/- Rows of the table of types that the walks of this family ask. -/
import Derived.Test.YtkgbldkjpohinaaGreatDoorChecked
import Derived.KernelRfl
namespace Go.Proofs.YtkgbldkjpohinaaGreatDoor
theorem info5 : (Tryz.prog.info? 5).map (fun i => (i.zero, i.size, i.bytes)) = some (some (.int .u8 0), 1, 1) := by kernel_rfl
theorem und23 : Tryz.prog.underlying 80 = some (.slice 5) := by kernel_rfl
theorem und9 : Tryz.prog.underlying 9 = some .string := by kernel_rfl
theorem und5 : Tryz.prog.underlying 5 = some (.int .u8) := by kernel_rfl
theorem und46 : Tryz.prog.underlying 107 = some (.int .u32) := by kernel_rfl
theorem size46 : (Tryz.prog.info? 107).map (·.size) = some 1 := by kernel_rfl
end Go.Proofs.YtkgbldkjpohinaaGreatDoor
