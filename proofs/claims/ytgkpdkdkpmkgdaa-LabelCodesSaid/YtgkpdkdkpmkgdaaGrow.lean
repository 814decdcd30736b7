/- slices.Grow's contract at this program's numbers, laid by the kit's tools. -/
import Derived.Shelf.Spec.SlicesGrow
import Derived.Ground.Names8Prog
import Derived.Test.YtgkpdkdkpmkgdaaProg
namespace Go.Proofs
open Go.Shelf
def Try.growI_ren : Go.Shelf.Ren := ⟨fun | 4 => 62 | n => n, fun | 22 => 22 | 25 => 3 | 3 => 3 | 4 => 4 | 9 => 9 | 20 => 20 | 0 => 0 | n => n, fun | n => n⟩
theorem Try.growI : Go.Proofs.Lays8.n4 Try.prog Try.growI_ren := {
  mixed := by kernel_rfl
  f4 := ⟨Try.f62.name, by decide, Try.func62.trans (congrArg some (by kernel_rfl))⟩
  t0 := Try.underlying0
  a0 := Try.isAgg0
  z0 := Try.sizeOf0
  v0 := Try.zeroValue0
  t3 := Try.underlying3
  a3 := Try.isAgg3
  z3 := Try.sizeOf3
  v3 := Try.zeroValue3
  t4 := Try.underlying4
  a4 := Try.isAgg4
  z4 := Try.sizeOf4
  v4 := Try.zeroValue4
  t9 := Try.underlying9
  a9 := Try.isAgg9
  z9 := Try.sizeOf9
  v9 := Try.zeroValue9
  t20 := Try.underlying20
  a20 := Try.isAgg20
  z20 := Try.sizeOf20
  v20 := Try.zeroValue20
  t22 := Try.underlying22
  a22 := Try.isAgg22
  z22 := Try.sizeOf22
  v22 := Try.zeroValue22 }
open Go.RowKit Go.Lib in
theorem Try.slices_Grow_nil (i0 : TypeInfo) (z : Value) (hi0 : Try.prog.info? 3 = some i0) (hz0 : i0.zero = some z) (hs0 : 0 < i0.size) (n : Nat) (w : World) (hroom : 0 < 0 + n) (hbig : (0 + n) * i0.bytes ≤ 140737488355328) (h63 : 0 + n ≤ 4611686018427387904) :
    Calls Try.prog 62 #[.slice none 0 0, .int .i64 n] w fun e w' =>
      e = .returned (.slice (some ⟨w.heap.size, 0, none⟩) 0 (grownCap w (0 + n) 0 3)) ∧
      w' = w.drew.alloc (.cells (#[] ++ Builtin.zeroCells z.cells (0 + n - 0) ++ Builtin.zeroCells z.cells (grownCap w (0 + n) 0 3 - (0 + n))) 3) := Any8.slices_Grow_grow Try.growI i0 z hi0 hz0 hs0 none 0 0 n [] w (Nat.le_refl _) hroom hbig h63 (by simp) (fun _ => rfl) (fun a h => by cases h)
open Go.RowKit Go.Lib in
theorem Try.slices_Grow_zero (w : World) :
    Calls Try.prog 62 #[.slice none 0 0, .int .i64 (0 : Nat)] w fun e w' => e = .returned (.slice none 0 0) ∧ w' = w := Any8.slices_Grow_room Try.growI none 0 0 0 w (Nat.le_refl _) (by decide) (by decide) (Nat.le_refl _)
end Go.Proofs
