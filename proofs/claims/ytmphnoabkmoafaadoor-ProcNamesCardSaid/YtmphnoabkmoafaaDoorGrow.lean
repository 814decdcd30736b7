/- slices.Grow's contract at this program's numbers, laid by the kit's tools. -/
import Derived.Shelf.Spec.SlicesGrow
import Derived.Ground.Names8Prog
import Derived.Test.YtmphnoabkmoafaaDoorProg
namespace Go.Proofs
open Go.Shelf
def Tryd.growI_ren : Go.Shelf.Ren := ⟨fun | 4 => 60 | n => n, fun | 22 => 22 | 25 => 3 | 3 => 3 | 4 => 4 | 9 => 9 | 20 => 20 | 0 => 0 | n => n, fun | n => n⟩
theorem Tryd.growI : Go.Proofs.Lays8.n4 Tryd.prog Tryd.growI_ren := {
  mixed := by kernel_rfl
  f4 := ⟨Tryd.f60.name, by decide, Tryd.func60.trans (congrArg some (by kernel_rfl))⟩
  t0 := Tryd.underlying0
  a0 := Tryd.isAgg0
  z0 := Tryd.sizeOf0
  v0 := Tryd.zeroValue0
  t3 := Tryd.underlying3
  a3 := Tryd.isAgg3
  z3 := Tryd.sizeOf3
  v3 := Tryd.zeroValue3
  t4 := Tryd.underlying4
  a4 := Tryd.isAgg4
  z4 := Tryd.sizeOf4
  v4 := Tryd.zeroValue4
  t9 := Tryd.underlying9
  a9 := Tryd.isAgg9
  z9 := Tryd.sizeOf9
  v9 := Tryd.zeroValue9
  t20 := Tryd.underlying20
  a20 := Tryd.isAgg20
  z20 := Tryd.sizeOf20
  v20 := Tryd.zeroValue20
  t22 := Tryd.underlying22
  a22 := Tryd.isAgg22
  z22 := Tryd.sizeOf22
  v22 := Tryd.zeroValue22 }
open Go.RowKit Go.Lib in
theorem Tryd.slices_Grow_nil (i0 : TypeInfo) (z : Value) (hi0 : Tryd.prog.info? 3 = some i0) (hz0 : i0.zero = some z) (hs0 : 0 < i0.size) (n : Nat) (w : World) (hroom : 0 < 0 + n) (hbig : (0 + n) * i0.bytes ≤ 140737488355328) (h63 : 0 + n ≤ 4611686018427387904) :
    Calls Tryd.prog 60 #[.slice none 0 0, .int .i64 n] w fun e w' =>
      e = .returned (.slice (some ⟨w.heap.size, 0, none⟩) 0 (grownCap w (0 + n) 0 3)) ∧
      w' = w.drew.alloc (.cells (#[] ++ Builtin.zeroCells z.cells (0 + n - 0) ++ Builtin.zeroCells z.cells (grownCap w (0 + n) 0 3 - (0 + n))) 3) := Any8.slices_Grow_grow Tryd.growI i0 z hi0 hz0 hs0 none 0 0 n [] w (Nat.le_refl _) hroom hbig h63 (by simp) (fun _ => rfl) (fun a h => by cases h)
open Go.RowKit Go.Lib in
theorem Tryd.slices_Grow_zero (w : World) :
    Calls Tryd.prog 60 #[.slice none 0 0, .int .i64 (0 : Nat)] w fun e w' => e = .returned (.slice none 0 0) ∧ w' = w := Any8.slices_Grow_room Tryd.growI none 0 0 0 w (Nat.le_refl _) (by decide) (by decide) (Nat.le_refl _)
end Go.Proofs
