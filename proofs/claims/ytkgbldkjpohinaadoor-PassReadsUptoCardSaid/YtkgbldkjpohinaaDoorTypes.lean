/- Rows of the table of types that the walks of this family ask. -/
import Derived.Test.YtkgbldkjpohinaaDoorChecked
import Derived.KernelRfl
namespace Go.Proofs.YtkgbldkjpohinaaDoor
theorem info5 : (Tryd.prog.info? 5).map (fun i => (i.zero, i.size, i.bytes)) = some (some (.int .u8 0), 1, 1) := by kernel_rfl
theorem und23 : Tryd.prog.underlying 48 = some (.slice 5) := by kernel_rfl
theorem und9 : Tryd.prog.underlying 9 = some .string := by kernel_rfl
theorem und5 : Tryd.prog.underlying 5 = some (.int .u8) := by kernel_rfl
theorem und46 : Tryd.prog.underlying 76 = some (.int .u32) := by kernel_rfl
theorem size46 : (Tryd.prog.info? 76).map (·.size) = some 1 := by kernel_rfl
end Go.Proofs.YtkgbldkjpohinaaDoor
