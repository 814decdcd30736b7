/- Rows of the table of types that the walks of this family ask. -/
import Derived.Test.YtdhdapnmjlklaaaChecked
import Derived.KernelRfl
namespace Go.Proofs.Ytdhdapnmjlklaaa
theorem info5 : (Try.prog.info? 5).map (fun i => (i.zero, i.size, i.bytes)) = some (some (.int .u8 0), 1, 1) := by kernel_rfl
theorem und23 : Try.prog.underlying 23 = some (.slice 5) := by kernel_rfl
theorem und9 : Try.prog.underlying 9 = some .string := by kernel_rfl
theorem und5 : Try.prog.underlying 5 = some (.int .u8) := by kernel_rfl
theorem und46 : Try.prog.underlying 46 = some (.int .u32) := by kernel_rfl
theorem size46 : (Try.prog.info? 46).map (·.size) = some 1 := by kernel_rfl
end Go.Proofs.Ytdhdapnmjlklaaa
