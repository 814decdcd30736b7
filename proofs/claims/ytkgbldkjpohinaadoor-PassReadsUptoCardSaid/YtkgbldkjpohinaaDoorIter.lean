/- slices.Sorted(maps.Keys(m)) at this program's numbers, laid by the kit's tools. -/
import Derived.Shelf.SlIter.Nil
import Derived.Shelf.SortM.Plain
import Derived.Shelf.SortM.SortNone
import Derived.Ground.GgzProg
import Derived.Ground.SlgmProg
import Derived.Test.YtkgbldkjpohinaaDoorProg
namespace Go.Proofs
open Go.Shelf
def Tryd.keys19_ren : Go.Shelf.Ren := ⟨fun | 7 => 19 | 10 => 33 | n => n, fun | 23 => 36 | 26 => 9 | 3 => 41 | 28 => 57 | 0 => 0 | 27 => 56 | 33 => 35 | 4 => 4 | n => n, fun | n => n⟩
theorem Tryd.keys19 : Go.Proofs.SlLaysZ.n7 Tryd.prog Tryd.keys19_ren := {
  mixed := by kernel_rfl
  f7 := ⟨Tryd.f19.name, by decide, Tryd.func19.trans (congrArg some (by kernel_rfl))⟩
  f10 := ⟨Tryd.f33.name, by decide, Tryd.func33.trans (congrArg some (by kernel_rfl))⟩
  t0 := Tryd.underlying0
  a0 := Tryd.isAgg0
  z0 := Tryd.sizeOf0
  v0 := Tryd.zeroValue0
  t4 := Tryd.underlying4
  a4 := Tryd.isAgg4
  z4 := Tryd.sizeOf4
  v4 := Tryd.zeroValue4
  t23 := Tryd.underlying36
  a23 := Tryd.isAgg36
  z23 := Tryd.sizeOf36
  v23 := Tryd.zeroValue36
  t26 := Tryd.underlying9
  a26 := Tryd.isAgg9
  z26 := Tryd.sizeOf9
  v26 := Tryd.zeroValue9
  t27 := Tryd.underlying56
  a27 := Tryd.isAgg56
  z27 := Tryd.sizeOf56
  v27 := Tryd.zeroValue56
  t28 := Tryd.underlying57
  a28 := Tryd.isAgg57
  z28 := Tryd.sizeOf57
  v28 := Tryd.zeroValue57
  t33 := Tryd.underlying35
  a33 := Tryd.isAgg35
  z33 := Tryd.sizeOf35
  v33 := Tryd.zeroValue35 }
def Tryd.sorted18_ren : Go.Shelf.Ren := ⟨fun | 6 => 18 | 8 => 31 | 9 => 32 | 11 => 44 | 13 => 46 | 12 => 45 | 23 => 64 | 24 => 65 | 14 => 55 | 15 => 56 | 16 => 57 | 17 => 58 | 18 => 59 | 19 => 60 | 20 => 61 | 21 => 62 | 22 => 63 | 25 => 73 | 26 => 74 | 27 => 75 | 28 => 76 | 29 => 77 | 30 => 78 | 31 => 88 | n => n, fun | 26 => 9 | 28 => 57 | 24 => 54 | 0 => 0 | 3 => 3 | 37 => 78 | 48 => 76 | 50 => 77 | 4 => 4 | 40 => 104 | 39 => 103 | 45 => 84 | 5 => 5 | 9 => 9 | 51 => 116 | 55 => 120 | 57 => 133 | 58 => 134 | 33 => 35 | n => n, fun | n => n⟩
theorem Tryd.sorted18 : Go.Proofs.SlLaysZ.n6 Tryd.prog Tryd.sorted18_ren := {
  mixed := by kernel_rfl
  f6 := ⟨Tryd.f18.name, by decide, Tryd.func18.trans (congrArg some (by kernel_rfl))⟩
  f8 := ⟨Tryd.f31.name, by decide, Tryd.func31.trans (congrArg some (by kernel_rfl))⟩
  f11 := ⟨Tryd.f44.name, by decide, Tryd.func44.trans (congrArg some (by kernel_rfl))⟩
  t0 := Tryd.underlying0
  a0 := Tryd.isAgg0
  z0 := Tryd.sizeOf0
  v0 := Tryd.zeroValue0
  t24 := Tryd.underlying54
  a24 := Tryd.isAgg54
  z24 := Tryd.sizeOf54
  v24 := Tryd.zeroValue54
  t26 := Tryd.underlying9
  a26 := Tryd.isAgg9
  z26 := Tryd.sizeOf9
  v26 := Tryd.zeroValue9
  t28 := Tryd.underlying57
  a28 := Tryd.isAgg57
  z28 := Tryd.sizeOf57
  v28 := Tryd.zeroValue57
  i26 := by kernel_rfl }
def Tryd.sort32_ren : Go.Shelf.Ren := ⟨fun | 6 => 32 | 8 => 46 | 9 => 45 | 19 => 64 | 20 => 65 | 21 => 55 | 22 => 56 | 23 => 57 | 24 => 58 | 25 => 59 | 26 => 60 | 27 => 61 | 28 => 62 | 29 => 63 | 36 => 73 | 31 => 74 | 32 => 75 | 37 => 76 | 38 => 77 | 39 => 78 | 41 => 88 | n => n, fun | 27 => 54 | 29 => 9 | 3 => 3 | 32 => 78 | 26 => 54 | 0 => 0 | 44 => 76 | 46 => 77 | 4 => 4 | 36 => 104 | 35 => 103 | 41 => 84 | 5 => 5 | 9 => 9 | 53 => 116 | 57 => 120 | 63 => 133 | 64 => 134 | n => n, fun | n => n⟩
theorem Tryd.sort32 : Go.Proofs.SlLaysM.n6 Tryd.prog Tryd.sort32_ren := {
  mixed := by kernel_rfl
  f6 := ⟨Tryd.f32.name, by decide, Tryd.func32.trans (congrArg some (by kernel_rfl))⟩
  f8 := Tryd.func46.trans (congrArg some (by kernel_rfl))
  f9 := ⟨Tryd.f45.name, by decide, Tryd.func45.trans (congrArg some (by kernel_rfl))⟩
  f19 := Tryd.func64.trans (congrArg some (by kernel_rfl))
  f20 := Tryd.func65.trans (congrArg some (by kernel_rfl))
  f21 := ⟨Tryd.f55.name, by decide, Tryd.func55.trans (congrArg some (by kernel_rfl))⟩
  f22 := ⟨Tryd.f56.name, by decide, Tryd.func56.trans (congrArg some (by kernel_rfl))⟩
  f23 := ⟨Tryd.f57.name, by decide, Tryd.func57.trans (congrArg some (by kernel_rfl))⟩
  f24 := ⟨Tryd.f58.name, by decide, Tryd.func58.trans (congrArg some (by kernel_rfl))⟩
  f25 := ⟨Tryd.f59.name, by decide, Tryd.func59.trans (congrArg some (by kernel_rfl))⟩
  f26 := ⟨Tryd.f60.name, by decide, Tryd.func60.trans (congrArg some (by kernel_rfl))⟩
  f27 := ⟨Tryd.f61.name, by decide, Tryd.func61.trans (congrArg some (by kernel_rfl))⟩
  f28 := ⟨Tryd.f62.name, by decide, Tryd.func62.trans (congrArg some (by kernel_rfl))⟩
  f29 := ⟨Tryd.f63.name, by decide, Tryd.func63.trans (congrArg some (by kernel_rfl))⟩
  f31 := Tryd.func74.trans (congrArg some (by kernel_rfl))
  f32 := Tryd.func75.trans (congrArg some (by kernel_rfl))
  f36 := ⟨Tryd.f73.name, by decide, Tryd.func73.trans (congrArg some (by kernel_rfl))⟩
  f37 := ⟨Tryd.f76.name, by decide, Tryd.func76.trans (congrArg some (by kernel_rfl))⟩
  f38 := ⟨Tryd.f77.name, by decide, Tryd.func77.trans (congrArg some (by kernel_rfl))⟩
  f39 := ⟨Tryd.f78.name, by decide, Tryd.func78.trans (congrArg some (by kernel_rfl))⟩
  f41 := ⟨Tryd.f88.name, by decide, Tryd.func88.trans (congrArg some (by kernel_rfl))⟩
  t0 := Tryd.underlying0
  a0 := Tryd.isAgg0
  z0 := Tryd.sizeOf0
  v0 := Tryd.zeroValue0
  t3 := Tryd.underlying3
  a3 := Tryd.isAgg3
  z3 := Tryd.sizeOf3
  v3 := Tryd.zeroValue3
  t4 := Tryd.underlying4
  a4 := Tryd.isAgg4
  z4 := Tryd.sizeOf4
  v4 := Tryd.zeroValue4
  t5 := Tryd.underlying5
  a5 := Tryd.isAgg5
  z5 := Tryd.sizeOf5
  v5 := Tryd.zeroValue5
  t9 := Tryd.underlying9
  a9 := Tryd.isAgg9
  z9 := Tryd.sizeOf9
  v9 := Tryd.zeroValue9
  t26 := Tryd.underlying54
  a26 := Tryd.isAgg54
  z26 := Tryd.sizeOf54
  v26 := Tryd.zeroValue54
  t27 := Tryd.underlying54
  a27 := Tryd.isAgg54
  z27 := Tryd.sizeOf54
  v27 := Tryd.zeroValue54
  t29 := Tryd.underlying9
  a29 := Tryd.isAgg9
  z29 := Tryd.sizeOf9
  v29 := Tryd.zeroValue9
  t32 := Tryd.underlying78
  a32 := Tryd.isAgg78
  z32 := Tryd.sizeOf78
  v32 := Tryd.zeroValue78
  t35 := Tryd.underlying103
  a35 := Tryd.isAgg103
  z35 := Tryd.sizeOf103
  v35 := Tryd.zeroValue103
  t36 := Tryd.underlying104
  a36 := Tryd.isAgg104
  z36 := Tryd.sizeOf104
  v36 := Tryd.zeroValue104
  t41 := Tryd.underlying84
  a41 := Tryd.isAgg84
  z41 := Tryd.sizeOf84
  v41 := Tryd.zeroValue84
  t44 := Tryd.underlying76
  a44 := Tryd.isAgg76
  z44 := Tryd.sizeOf76
  v44 := Tryd.zeroValue76
  t46 := Tryd.underlying77
  a46 := Tryd.isAgg77
  z46 := Tryd.sizeOf77
  v46 := Tryd.zeroValue77
  t53 := Tryd.underlying116
  a53 := Tryd.isAgg116
  z53 := Tryd.sizeOf116
  v53 := Tryd.zeroValue116
  t57 := Tryd.underlying120
  a57 := Tryd.isAgg120
  z57 := Tryd.sizeOf120
  v57 := Tryd.zeroValue120
  t63 := Tryd.underlying133
  a63 := Tryd.isAgg133
  z63 := Tryd.sizeOf133
  v63 := Tryd.zeroValue133
  t64 := Tryd.underlying134
  a64 := Tryd.isAgg134
  z64 := Tryd.sizeOf134
  v64 := Tryd.zeroValue134 }
open Go.RowKit Go.Maps Go.Sort
theorem Tryd.sorts18 (m : Nat) : AnyZ.SortsIn Tryd.prog Tryd.sorted18_ren Fence.wide m :=
  ⟨fun blk off cap ss W hH hblk hsz => callsIn_wide.2 (AnyM.slices_Sort_string Tryd.sort32 blk off cap ss W hH hblk hsz),
   fun p cap W => callsIn_wide.2 (AnyM.slices_Sort_string_none Tryd.sort32 p cap W)⟩
theorem Tryd.maps_Keys_19 (mb : Option Nat) (W : World) : CallsIn Fence.wide 5 Tryd.prog 19 #[.map mb] W fun e w' => e = .returned (.func (.func 33) #[] #[.pointer (some ⟨W.heap.size, 0, none⟩)]) ∧ w' = W.alloc (.cells #[.map mb] 36) :=
  AnyZ.keys_in Tryd.keys19 Fence.wide 5 trivial rfl mb W
set_option maxHeartbeats 1000000 in
theorem Tryd.slices_Sorted_keys_18_19 {H : Type} (b nn : Nat) (D0 : DataW H) (R : Value → Option (DataW H × List MemPlace)) (w : World) (hown : w.ownsMap Tryd.prog 9 R b nn D0) (hmax : Maps.size D0 ≤ maxLen) (hbytes : Maps.size D0 * 16 ≤ 140737488355328) :
    CallsIn Fence.wide 5 Tryd.prog 18 #[.func (.func 33) #[] #[.pointer (some ⟨w.heap.size, 0, none⟩)]] (w.alloc (.cells #[.map (some b)] 36)) fun e w' => ∃ (v : Value) (ss : List (List UInt8)), e = .returned v ∧ ss.Perm (strKeys D0) ∧
      w'.ownsRow (w.alloc (.cells #[.map (some b)] 36)).heap.size 9 1 v ss.length ((ss.mergeSort (fun x y => decide (x ≤ y))).map encStr) ∧ (v = .slice none 0 0 ↔ ss = []) ∧ Below (w.alloc (.cells #[.map (some b)] 36)).heap.size (w.alloc (.cells #[.map (some b)] 36)) w' := by
  have hbl := hown.lt
  have hseq : SeqGives Fence.wide 2 Tryd.prog 33 #[.pointer (some ⟨w.heap.size, 0, none⟩)] encStr (fun ss => ss.Perm (strKeys D0)) (Maps.size D0) (w.alloc (.cells #[.map (some b)] 36)) :=
    AnyZ.keys_gives (ρ := Tryd.keys19_ren) { Tryd.keys19 with } Fence.wide _ trivial rfl (by omega) w.heap.size b nn D0 _ (by simp) (by simp) (by
      obtain ⟨es, clock, hb, Ft, hs, hD⟩ := hown
      exact ⟨es, clock, (Below.heap_alloc _ _ b hbl).trans hb, Ft, hs, hD⟩)
  exact AnyZ.sorted_in Tryd.sorted18 Fence.wide 5 trivial trivial trivial trivial rfl (by omega) (Tryd.sorts18 _) (enters_of Tryd.func32 (by kernel_rfl) rfl) 33 #[.pointer (some ⟨w.heap.size, 0, none⟩)] trivial (enters_of Tryd.func33 (by kernel_rfl) rfl) _ _ hmax hbytes _ hseq
set_option maxHeartbeats 1000000 in
theorem Tryd.slices_Sorted_keys_nil_18_19 (w : World) :
    CallsIn Fence.wide 5 Tryd.prog 18 #[.func (.func 33) #[] #[.pointer (some ⟨w.heap.size, 0, none⟩)]] (w.alloc (.cells #[.map none] 36)) fun e w' => ∃ (v : Value) (ss : List (List UInt8)), e = .returned v ∧ ss = [] ∧
      w'.ownsRow (w.alloc (.cells #[.map none] 36)).heap.size 9 1 v ss.length ((ss.mergeSort (fun x y => decide (x ≤ y))).map encStr) ∧ (v = .slice none 0 0 ↔ ss = []) ∧ Below (w.alloc (.cells #[.map none] 36)).heap.size (w.alloc (.cells #[.map none] 36)) w' := by
  have hseq : SeqGives Fence.wide 2 Tryd.prog 33 #[.pointer (some ⟨w.heap.size, 0, none⟩)] encStr (fun ss : List (List UInt8) => ss = []) 0 (w.alloc (.cells #[.map none] 36)) :=
    AnyZ.keys_gives_nil (ρ := Tryd.keys19_ren) { Tryd.keys19 with } Fence.wide _ trivial rfl w.heap.size _ (by simp) (by simp)
  exact AnyZ.sorted_in Tryd.sorted18 Fence.wide 5 trivial trivial trivial trivial rfl (by omega) (Tryd.sorts18 _) (enters_of Tryd.func32 (by kernel_rfl) rfl) 33 #[.pointer (some ⟨w.heap.size, 0, none⟩)] trivial (enters_of Tryd.func33 (by kernel_rfl) rfl) _ 0 (Nat.zero_le _) (by omega) _ hseq
end Go.Proofs
