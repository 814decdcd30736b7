/- bits.TrailingZeros, as the library proves it, at this program's numbers. -/
import Derived.Shelf.Spec.TrailingZeros
import Derived.Test.YtmphnoabkmoafaaDoorShelf
namespace Go.Proofs
open Go.Shelf
set_option maxRecDepth 100000
def Tryd.lays27_ren : Go.Shelf.Ren := ⟨fun | 27 => 35 | 28 => 52 | 29 => 53 | n => n, fun | 0 => 0 | 3 => 3 | 4 => 4 | 5 => 5 | 22 => 101 | 25 => 52 | 27 => 99 | 53 => 110 | 54 => 111 | n => n, fun | n => n⟩
theorem Tryd.lays27 : Go.Proofs.Lays7.n27 Tryd.prog Tryd.lays27_ren := {
  mixed := by kernel_rfl
  f27 := Tryd.func35.trans (congrArg some (by kernel_rfl))
  f28 := Tryd.func52.trans (congrArg some (by kernel_rfl))
  f29 := Tryd.func53.trans (congrArg some (by kernel_rfl))
  t0 := by kernel_rfl
  a0 := fun _ => by kernel_rfl
  z0 := fun _ => by kernel_rfl
  v0 := fun _ => by kernel_rfl
  i0 := by kernel_rfl
  t3 := Tryd.underlying3
  a3 := fun _ => by kernel_rfl
  z3 := fun _ => by kernel_rfl
  v3 := fun _ => by kernel_rfl
  i3 := by kernel_rfl
  t4 := Tryd.underlying4
  a4 := fun _ => by kernel_rfl
  z4 := fun _ => by kernel_rfl
  v4 := fun _ => by kernel_rfl
  i4 := by kernel_rfl
  t5 := Tryd.underlying5
  a5 := fun _ => by kernel_rfl
  z5 := fun _ => by kernel_rfl
  v5 := fun _ => by kernel_rfl
  i5 := by kernel_rfl
  t22 := Tryd.underlying101
  a22 := fun _ => by kernel_rfl
  z22 := fun _ => by kernel_rfl
  v22 := fun _ => by kernel_rfl
  i22 := by kernel_rfl
  t25 := Tryd.underlying52
  a25 := fun _ => by kernel_rfl
  z25 := fun _ => by kernel_rfl
  v25 := fun _ => by kernel_rfl
  i25 := by kernel_rfl
  t27 := Tryd.underlying99
  a27 := fun _ => by kernel_rfl
  z27 := fun _ => by kernel_rfl
  v27 := fun _ => by kernel_rfl
  i27 := by kernel_rfl
  t53 := Tryd.underlying110
  a53 := fun _ => by kernel_rfl
  z53 := fun _ => by kernel_rfl
  v53 := fun _ => by kernel_rfl
  i53 := by kernel_rfl
  t54 := Tryd.underlying111
  a54 := fun _ => by kernel_rfl
  z54 := fun _ => by kernel_rfl
  g0 := by kernel_rfl
  g1 := by kernel_rfl }
theorem Tryd.bits_TrailingZeros (x : Nat) (hx : x < 18446744073709551616) (w : World) (hT : x ≠ 0 → TabAt 1 Lib.deBruijn64tab w) : Calls Tryd.prog 35 #[.int .u64 x] w fun e w' => e = .returned (.int .i64 (Lib.ctz 64 x)) ∧ w' = w := Any7.bits_TrailingZeros Tryd.lays27 x hx w hT
end Go.Proofs
