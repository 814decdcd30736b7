/- slices.Sorted(maps.Keys(m)) at this program's numbers, laid by the kit's tools. -/
import Derived.Shelf.SlIter.Nil
import Derived.Shelf.SortM.Plain
import Derived.Shelf.SortM.SortNone
import Derived.Ground.GgzProg
import Derived.Ground.SlgmProg
import Derived.Test.YtmphnoabkmoafaaDoorProg
namespace Go.Proofs
open Go.RowKit Go.Maps Go.Sort Go.Shelf
def Tryd.keys50_ren : Go.Shelf.Ren := ⟨fun | 7 => 50 | 10 => 64 | n => n, fun | 23 => 67 | 26 => 9 | 3 => 64 | 28 => 95 | 0 => 0 | 27 => 94 | 33 => 79 | 4 => 4 | n => n, fun | n => n⟩
theorem Tryd.keys50 : Go.Proofs.SlLaysZ.n7 Tryd.prog Tryd.keys50_ren := {
  mixed := by kernel_rfl
  f7 := ⟨Tryd.f50.name, by decide, Tryd.func50.trans (congrArg some (by kernel_rfl))⟩
  f10 := ⟨Tryd.f64.name, by decide, Tryd.func64.trans (congrArg some (by kernel_rfl))⟩
  t0 := Tryd.underlying0
  a0 := Tryd.isAgg0
  z0 := Tryd.sizeOf0
  v0 := Tryd.zeroValue0
  t4 := Tryd.underlying4
  a4 := Tryd.isAgg4
  z4 := Tryd.sizeOf4
  v4 := Tryd.zeroValue4
  t23 := Tryd.underlying67
  a23 := Tryd.isAgg67
  z23 := Tryd.sizeOf67
  v23 := Tryd.zeroValue67
  t26 := Tryd.underlying9
  a26 := Tryd.isAgg9
  z26 := Tryd.sizeOf9
  v26 := Tryd.zeroValue9
  t27 := Tryd.underlying94
  a27 := Tryd.isAgg94
  z27 := Tryd.sizeOf94
  v27 := Tryd.zeroValue94
  t28 := Tryd.underlying95
  a28 := Tryd.isAgg95
  z28 := Tryd.sizeOf95
  v28 := Tryd.zeroValue95
  t33 := Tryd.underlying79
  a33 := Tryd.isAgg79
  z33 := Tryd.sizeOf79
  v33 := Tryd.zeroValue79 }
def Tryd.sorted49_ren : Go.Shelf.Ren := ⟨fun | 6 => 49 | 8 => 62 | 9 => 63 | 11 => 72 | 13 => 67 | 12 => 73 | 23 => 84 | 24 => 85 | 14 => 89 | 15 => 90 | 16 => 91 | 17 => 92 | 18 => 93 | 19 => 94 | 20 => 95 | 21 => 96 | 22 => 97 | 25 => 104 | 26 => 99 | 27 => 100 | 28 => 105 | 29 => 106 | 30 => 107 | 31 => 109 | n => n, fun | 26 => 9 | 28 => 95 | 24 => 27 | 0 => 0 | 3 => 3 | 37 => 52 | 48 => 99 | 50 => 101 | 4 => 4 | 40 => 122 | 39 => 121 | 45 => 57 | 5 => 5 | 9 => 9 | 51 => 138 | 55 => 142 | 57 => 146 | 58 => 147 | 33 => 79 | n => n, fun | n => n⟩
theorem Tryd.sorted49 : Go.Proofs.SlLaysZ.n6 Tryd.prog Tryd.sorted49_ren := {
  mixed := by kernel_rfl
  f6 := ⟨Tryd.f49.name, by decide, Tryd.func49.trans (congrArg some (by kernel_rfl))⟩
  f8 := ⟨Tryd.f62.name, by decide, Tryd.func62.trans (congrArg some (by kernel_rfl))⟩
  f11 := ⟨Tryd.f72.name, by decide, Tryd.func72.trans (congrArg some (by kernel_rfl))⟩
  t0 := Tryd.underlying0
  a0 := Tryd.isAgg0
  z0 := Tryd.sizeOf0
  v0 := Tryd.zeroValue0
  t24 := Tryd.underlying27
  a24 := Tryd.isAgg27
  z24 := Tryd.sizeOf27
  v24 := Tryd.zeroValue27
  t26 := Tryd.underlying9
  a26 := Tryd.isAgg9
  z26 := Tryd.sizeOf9
  v26 := Tryd.zeroValue9
  t28 := Tryd.underlying95
  a28 := Tryd.isAgg95
  z28 := Tryd.sizeOf95
  v28 := Tryd.zeroValue95
  i26 := by kernel_rfl }
def Tryd.sort63_ren : Go.Shelf.Ren := ⟨fun | 6 => 63 | 8 => 67 | 9 => 73 | 19 => 84 | 20 => 85 | 21 => 89 | 22 => 90 | 23 => 91 | 24 => 92 | 25 => 93 | 26 => 94 | 27 => 95 | 28 => 96 | 29 => 97 | 36 => 104 | 31 => 99 | 32 => 100 | 37 => 105 | 38 => 106 | 39 => 107 | 41 => 109 | n => n, fun | 27 => 27 | 29 => 9 | 3 => 3 | 32 => 52 | 26 => 27 | 0 => 0 | 44 => 99 | 46 => 101 | 4 => 4 | 36 => 122 | 35 => 121 | 41 => 57 | 5 => 5 | 9 => 9 | 53 => 138 | 57 => 142 | 63 => 146 | 64 => 147 | n => n, fun | n => n⟩
theorem Tryd.sort63 : Go.Proofs.SlLaysM.n6 Tryd.prog Tryd.sort63_ren := {
  mixed := by kernel_rfl
  f6 := ⟨Tryd.f63.name, by decide, Tryd.func63.trans (congrArg some (by kernel_rfl))⟩
  f8 := Tryd.func67.trans (congrArg some (by kernel_rfl))
  f9 := ⟨Tryd.f73.name, by decide, Tryd.func73.trans (congrArg some (by kernel_rfl))⟩
  f19 := Tryd.func84.trans (congrArg some (by kernel_rfl))
  f20 := Tryd.func85.trans (congrArg some (by kernel_rfl))
  f21 := ⟨Tryd.f89.name, by decide, Tryd.func89.trans (congrArg some (by kernel_rfl))⟩
  f22 := ⟨Tryd.f90.name, by decide, Tryd.func90.trans (congrArg some (by kernel_rfl))⟩
  f23 := ⟨Tryd.f91.name, by decide, Tryd.func91.trans (congrArg some (by kernel_rfl))⟩
  f24 := ⟨Tryd.f92.name, by decide, Tryd.func92.trans (congrArg some (by kernel_rfl))⟩
  f25 := ⟨Tryd.f93.name, by decide, Tryd.func93.trans (congrArg some (by kernel_rfl))⟩
  f26 := ⟨Tryd.f94.name, by decide, Tryd.func94.trans (congrArg some (by kernel_rfl))⟩
  f27 := ⟨Tryd.f95.name, by decide, Tryd.func95.trans (congrArg some (by kernel_rfl))⟩
  f28 := ⟨Tryd.f96.name, by decide, Tryd.func96.trans (congrArg some (by kernel_rfl))⟩
  f29 := ⟨Tryd.f97.name, by decide, Tryd.func97.trans (congrArg some (by kernel_rfl))⟩
  f31 := Tryd.func99.trans (congrArg some (by kernel_rfl))
  f32 := Tryd.func100.trans (congrArg some (by kernel_rfl))
  f36 := ⟨Tryd.f104.name, by decide, Tryd.func104.trans (congrArg some (by kernel_rfl))⟩
  f37 := ⟨Tryd.f105.name, by decide, Tryd.func105.trans (congrArg some (by kernel_rfl))⟩
  f38 := ⟨Tryd.f106.name, by decide, Tryd.func106.trans (congrArg some (by kernel_rfl))⟩
  f39 := ⟨Tryd.f107.name, by decide, Tryd.func107.trans (congrArg some (by kernel_rfl))⟩
  f41 := ⟨Tryd.f109.name, by decide, Tryd.func109.trans (congrArg some (by kernel_rfl))⟩
  t0 := Tryd.underlying0
  a0 := Tryd.isAgg0
  z0 := Tryd.sizeOf0
  v0 := Tryd.zeroValue0
  t3 := Tryd.underlying3
  a3 := Tryd.isAgg3
  z3 := Tryd.sizeOf3
  v3 := Tryd.zeroValue3
  t4 := Tryd.underlying4
  a4 := Tryd.isAgg4
  z4 := Tryd.sizeOf4
  v4 := Tryd.zeroValue4
  t5 := Tryd.underlying5
  a5 := Tryd.isAgg5
  z5 := Tryd.sizeOf5
  v5 := Tryd.zeroValue5
  t9 := Tryd.underlying9
  a9 := Tryd.isAgg9
  z9 := Tryd.sizeOf9
  v9 := Tryd.zeroValue9
  t26 := Tryd.underlying27
  a26 := Tryd.isAgg27
  z26 := Tryd.sizeOf27
  v26 := Tryd.zeroValue27
  t27 := Tryd.underlying27
  a27 := Tryd.isAgg27
  z27 := Tryd.sizeOf27
  v27 := Tryd.zeroValue27
  t29 := Tryd.underlying9
  a29 := Tryd.isAgg9
  z29 := Tryd.sizeOf9
  v29 := Tryd.zeroValue9
  t32 := Tryd.underlying52
  a32 := Tryd.isAgg52
  z32 := Tryd.sizeOf52
  v32 := Tryd.zeroValue52
  t35 := Tryd.underlying121
  a35 := Tryd.isAgg121
  z35 := Tryd.sizeOf121
  v35 := Tryd.zeroValue121
  t36 := Tryd.underlying122
  a36 := Tryd.isAgg122
  z36 := Tryd.sizeOf122
  v36 := Tryd.zeroValue122
  t41 := Tryd.underlying57
  a41 := Tryd.isAgg57
  z41 := Tryd.sizeOf57
  v41 := Tryd.zeroValue57
  t44 := Tryd.underlying99
  a44 := Tryd.isAgg99
  z44 := Tryd.sizeOf99
  v44 := Tryd.zeroValue99
  t46 := Tryd.underlying101
  a46 := Tryd.isAgg101
  z46 := Tryd.sizeOf101
  v46 := Tryd.zeroValue101
  t53 := Tryd.underlying138
  a53 := Tryd.isAgg138
  z53 := Tryd.sizeOf138
  v53 := Tryd.zeroValue138
  t57 := Tryd.underlying142
  a57 := Tryd.isAgg142
  z57 := Tryd.sizeOf142
  v57 := Tryd.zeroValue142
  t63 := Tryd.underlying146
  a63 := Tryd.isAgg146
  z63 := Tryd.sizeOf146
  v63 := Tryd.zeroValue146
  t64 := Tryd.underlying147
  a64 := Tryd.isAgg147
  z64 := Tryd.sizeOf147
  v64 := Tryd.zeroValue147 }
theorem Tryd.sorts49 (m : Nat) : AnyZ.SortsIn Tryd.prog Tryd.sorted49_ren Fence.wide m :=
  ⟨fun blk off cap ss W hH hblk hsz => callsIn_wide.2 (AnyM.slices_Sort_string Tryd.sort63 blk off cap ss W hH hblk hsz),
   fun p cap W => callsIn_wide.2 (AnyM.slices_Sort_string_none Tryd.sort63 p cap W)⟩

theorem Tryd.maps_Keys_50 (mb : Option Nat) (W : World) : CallsIn Fence.wide 5 Tryd.prog 50 #[.map mb] W fun e w' => e = .returned (.func (.func 64) #[] #[.pointer (some ⟨W.heap.size, 0, none⟩)]) ∧ w' = W.alloc (.cells #[.map mb] 67) :=
  AnyZ.keys_in Tryd.keys50 Fence.wide 5 trivial rfl mb W

set_option maxHeartbeats 1000000 in
theorem Tryd.slices_Sorted_keys_49_50 {H : Type} (b nn : Nat) (D0 : DataW H) (R : Value → Option (DataW H × List MemPlace)) (w : World) (hown : w.ownsMap Tryd.prog 9 R b nn D0) (hmax : Maps.size D0 ≤ maxLen) (hbytes : Maps.size D0 * 16 ≤ 140737488355328) :
    CallsIn Fence.wide 5 Tryd.prog 49 #[.func (.func 64) #[] #[.pointer (some ⟨w.heap.size, 0, none⟩)]] (w.alloc (.cells #[.map (some b)] 67)) fun e w' => ∃ (v : Value) (ss : List (List UInt8)), e = .returned v ∧ ss.Perm (strKeys D0) ∧
      w'.ownsRow (w.alloc (.cells #[.map (some b)] 67)).heap.size 9 1 v ss.length ((ss.mergeSort (fun x y => decide (x ≤ y))).map encStr) ∧ (v = .slice none 0 0 ↔ ss = []) ∧ Below (w.alloc (.cells #[.map (some b)] 67)).heap.size (w.alloc (.cells #[.map (some b)] 67)) w' := by
  have hbl := hown.lt
  have hseq : SeqGives Fence.wide 2 Tryd.prog 64 #[.pointer (some ⟨w.heap.size, 0, none⟩)] encStr (fun ss => ss.Perm (strKeys D0)) (Maps.size D0) (w.alloc (.cells #[.map (some b)] 67)) :=
    AnyZ.keys_gives (ρ := Tryd.keys50_ren) { Tryd.keys50 with } Fence.wide _ trivial rfl (by omega) w.heap.size b nn D0 _ (by simp) (by simp) (by
      obtain ⟨es, clock, hb, Ft, hs, hD⟩ := hown
      exact ⟨es, clock, (Below.heap_alloc _ _ b hbl).trans hb, Ft, hs, hD⟩)
  exact AnyZ.sorted_in Tryd.sorted49 Fence.wide 5 trivial trivial trivial trivial rfl (by omega) (Tryd.sorts49 _) (enters_of Tryd.func63 (by kernel_rfl) rfl) 64 #[.pointer (some ⟨w.heap.size, 0, none⟩)] trivial (enters_of Tryd.func64 (by kernel_rfl) rfl) _ _ hmax hbytes _ hseq

set_option maxHeartbeats 1000000 in
theorem Tryd.slices_Sorted_keys_nil_49_50 (w : World) :
    CallsIn Fence.wide 5 Tryd.prog 49 #[.func (.func 64) #[] #[.pointer (some ⟨w.heap.size, 0, none⟩)]] (w.alloc (.cells #[.map none] 67)) fun e w' => ∃ (v : Value) (ss : List (List UInt8)), e = .returned v ∧ ss = [] ∧
      w'.ownsRow (w.alloc (.cells #[.map none] 67)).heap.size 9 1 v ss.length ((ss.mergeSort (fun x y => decide (x ≤ y))).map encStr) ∧ (v = .slice none 0 0 ↔ ss = []) ∧ Below (w.alloc (.cells #[.map none] 67)).heap.size (w.alloc (.cells #[.map none] 67)) w' := by
  have hseq : SeqGives Fence.wide 2 Tryd.prog 64 #[.pointer (some ⟨w.heap.size, 0, none⟩)] encStr (fun ss : List (List UInt8) => ss = []) 0 (w.alloc (.cells #[.map none] 67)) :=
    AnyZ.keys_gives_nil (ρ := Tryd.keys50_ren) { Tryd.keys50 with } Fence.wide _ trivial rfl w.heap.size _ (by simp) (by simp)
  exact AnyZ.sorted_in Tryd.sorted49 Fence.wide 5 trivial trivial trivial trivial rfl (by omega) (Tryd.sorts49 _) (enters_of Tryd.func63 (by kernel_rfl) rfl) 64 #[.pointer (some ⟨w.heap.size, 0, none⟩)] trivial (enters_of Tryd.func64 (by kernel_rfl) rfl) _ 0 (Nat.zero_le _) (by omega) _ hseq
end Go.Proofs
