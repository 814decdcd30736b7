/- slices.Sorted(maps.Keys(m)) at this program's numbers, laid by the kit's tools. The table's names, rising. -/
import Derived.Shelf.SlIter.Nil
import Derived.Shelf.SortM.Plain
import Derived.Shelf.SortM.SortNone
import Derived.Ground.GgzProg
import Derived.Ground.SlgmProg
import Derived.Test.YtmphnoabkmoafaaGreatDoorProg
import Derived.Test.YtmphnoabkmoafaaGreatDoorM16
namespace Go.Proofs
open Go.RowKit Go.Maps Go.Sort Go.Shelf
def Tryz.keys50_ren : Go.Shelf.Ren := ⟨fun | 7 => 89 | 10 => 107 | n => n, fun | 23 => 69 | 26 => 9 | 3 => 66 | 28 => 130 | 0 => 0 | 27 => 129 | 33 => 108 | 4 => 4 | n => n, fun | n => n⟩
theorem Tryz.keys50 : Go.Proofs.SlLaysZ.n7 Tryz.prog Tryz.keys50_ren := {
  mixed := by kernel_rfl
  f7 := ⟨Tryz.f89.name, by decide, Tryz.func89.trans (congrArg some (by kernel_rfl))⟩
  f10 := ⟨Tryz.f107.name, by decide, Tryz.func107.trans (congrArg some (by kernel_rfl))⟩
  t0 := Tryz.underlying0
  a0 := Tryz.isAgg0
  z0 := Tryz.sizeOf0
  v0 := Tryz.zeroValue0
  t4 := Tryz.underlying4
  a4 := Tryz.isAgg4
  z4 := Tryz.sizeOf4
  v4 := Tryz.zeroValue4
  t23 := Tryz.underlying69
  a23 := Tryz.isAgg69
  z23 := Tryz.sizeOf69
  v23 := Tryz.zeroValue69
  t26 := Tryz.underlying9
  a26 := Tryz.isAgg9
  z26 := Tryz.sizeOf9
  v26 := Tryz.zeroValue9
  t27 := Tryz.underlying129
  a27 := Tryz.isAgg129
  z27 := Tryz.sizeOf129
  v27 := Tryz.zeroValue129
  t28 := Tryz.underlying130
  a28 := Tryz.isAgg130
  z28 := Tryz.sizeOf130
  v28 := Tryz.zeroValue130
  t33 := Tryz.underlying108
  a33 := Tryz.isAgg108
  z33 := Tryz.sizeOf108
  v33 := Tryz.zeroValue108 }
def Tryz.sorted49_ren : Go.Shelf.Ren := ⟨fun | 6 => 88 | 8 => 105 | 9 => 106 | 11 => 113 | 13 => 110 | 12 => 114 | 23 => 124 | 24 => 125 | 14 => 131 | 15 => 132 | 16 => 133 | 17 => 134 | 18 => 135 | 19 => 136 | 20 => 137 | 21 => 138 | 22 => 139 | 25 => 149 | 26 => 141 | 27 => 142 | 28 => 150 | 29 => 151 | 30 => 152 | 31 => 154 | n => n, fun | 26 => 9 | 28 => 130 | 24 => 57 | 0 => 0 | 3 => 3 | 37 => 122 | 48 => 139 | 50 => 141 | 4 => 4 | 40 => 152 | 39 => 151 | 45 => 88 | 5 => 5 | 9 => 9 | 51 => 169 | 55 => 173 | 57 => 181 | 58 => 100 | 33 => 108 | n => n, fun | n => n⟩
theorem Tryz.sorted49 : Go.Proofs.SlLaysZ.n6 Tryz.prog Tryz.sorted49_ren := {
  mixed := by kernel_rfl
  f6 := ⟨Tryz.f88.name, by decide, Tryz.func88.trans (congrArg some (by kernel_rfl))⟩
  f8 := ⟨Tryz.f105.name, by decide, Tryz.func105.trans (congrArg some (by kernel_rfl))⟩
  f11 := ⟨Tryz.f113.name, by decide, Tryz.func113.trans (congrArg some (by kernel_rfl))⟩
  t0 := Tryz.underlying0
  a0 := Tryz.isAgg0
  z0 := Tryz.sizeOf0
  v0 := Tryz.zeroValue0
  t24 := Tryz.underlying57
  a24 := Tryz.isAgg57
  z24 := Tryz.sizeOf57
  v24 := Tryz.zeroValue57
  t26 := Tryz.underlying9
  a26 := Tryz.isAgg9
  z26 := Tryz.sizeOf9
  v26 := Tryz.zeroValue9
  t28 := Tryz.underlying130
  a28 := Tryz.isAgg130
  z28 := Tryz.sizeOf130
  v28 := Tryz.zeroValue130
  i26 := by kernel_rfl }
def Tryz.sort63_ren : Go.Shelf.Ren := ⟨fun | 6 => 106 | 8 => 110 | 9 => 114 | 19 => 124 | 20 => 125 | 21 => 131 | 22 => 132 | 23 => 133 | 24 => 134 | 25 => 135 | 26 => 136 | 27 => 137 | 28 => 138 | 29 => 139 | 36 => 149 | 31 => 141 | 32 => 142 | 37 => 150 | 38 => 151 | 39 => 152 | 41 => 154 | n => n, fun | 27 => 57 | 29 => 9 | 3 => 3 | 32 => 122 | 26 => 57 | 0 => 0 | 44 => 139 | 46 => 141 | 4 => 4 | 36 => 152 | 35 => 151 | 41 => 88 | 5 => 5 | 9 => 9 | 53 => 169 | 57 => 173 | 63 => 181 | 64 => 100 | n => n, fun | n => n⟩
theorem Tryz.sort63 : Go.Proofs.SlLaysM.n6 Tryz.prog Tryz.sort63_ren := {
  mixed := by kernel_rfl
  f6 := ⟨Tryz.f106.name, by decide, Tryz.func106.trans (congrArg some (by kernel_rfl))⟩
  f8 := Tryz.func110.trans (congrArg some (by kernel_rfl))
  f9 := ⟨Tryz.f114.name, by decide, Tryz.func114.trans (congrArg some (by kernel_rfl))⟩
  f19 := Tryz.func124.trans (congrArg some (by kernel_rfl))
  f20 := Tryz.func125.trans (congrArg some (by kernel_rfl))
  f21 := ⟨Tryz.f131.name, by decide, Tryz.func131.trans (congrArg some (by kernel_rfl))⟩
  f22 := ⟨Tryz.f132.name, by decide, Tryz.func132.trans (congrArg some (by kernel_rfl))⟩
  f23 := ⟨Tryz.f133.name, by decide, Tryz.func133.trans (congrArg some (by kernel_rfl))⟩
  f24 := ⟨Tryz.f134.name, by decide, Tryz.func134.trans (congrArg some (by kernel_rfl))⟩
  f25 := ⟨Tryz.f135.name, by decide, Tryz.func135.trans (congrArg some (by kernel_rfl))⟩
  f26 := ⟨Tryz.f136.name, by decide, Tryz.func136.trans (congrArg some (by kernel_rfl))⟩
  f27 := ⟨Tryz.f137.name, by decide, Tryz.func137.trans (congrArg some (by kernel_rfl))⟩
  f28 := ⟨Tryz.f138.name, by decide, Tryz.func138.trans (congrArg some (by kernel_rfl))⟩
  f29 := ⟨Tryz.f139.name, by decide, Tryz.func139.trans (congrArg some (by kernel_rfl))⟩
  f31 := Tryz.func141.trans (congrArg some (by kernel_rfl))
  f32 := Tryz.func142.trans (congrArg some (by kernel_rfl))
  f36 := ⟨Tryz.f149.name, by decide, Tryz.func149.trans (congrArg some (by kernel_rfl))⟩
  f37 := ⟨Tryz.f150.name, by decide, Tryz.func150.trans (congrArg some (by kernel_rfl))⟩
  f38 := ⟨Tryz.f151.name, by decide, Tryz.func151.trans (congrArg some (by kernel_rfl))⟩
  f39 := ⟨Tryz.f152.name, by decide, Tryz.func152.trans (congrArg some (by kernel_rfl))⟩
  f41 := ⟨Tryz.f154.name, by decide, Tryz.func154.trans (congrArg some (by kernel_rfl))⟩
  t0 := Tryz.underlying0
  a0 := Tryz.isAgg0
  z0 := Tryz.sizeOf0
  v0 := Tryz.zeroValue0
  t3 := Tryz.underlying3
  a3 := Tryz.isAgg3
  z3 := Tryz.sizeOf3
  v3 := Tryz.zeroValue3
  t4 := Tryz.underlying4
  a4 := Tryz.isAgg4
  z4 := Tryz.sizeOf4
  v4 := Tryz.zeroValue4
  t5 := Tryz.underlying5
  a5 := Tryz.isAgg5
  z5 := Tryz.sizeOf5
  v5 := Tryz.zeroValue5
  t9 := Tryz.underlying9
  a9 := Tryz.isAgg9
  z9 := Tryz.sizeOf9
  v9 := Tryz.zeroValue9
  t26 := Tryz.underlying57
  a26 := Tryz.isAgg57
  z26 := Tryz.sizeOf57
  v26 := Tryz.zeroValue57
  t27 := Tryz.underlying57
  a27 := Tryz.isAgg57
  z27 := Tryz.sizeOf57
  v27 := Tryz.zeroValue57
  t29 := Tryz.underlying9
  a29 := Tryz.isAgg9
  z29 := Tryz.sizeOf9
  v29 := Tryz.zeroValue9
  t32 := Tryz.underlying122
  a32 := Tryz.isAgg122
  z32 := Tryz.sizeOf122
  v32 := Tryz.zeroValue122
  t35 := Tryz.underlying151
  a35 := Tryz.isAgg151
  z35 := Tryz.sizeOf151
  v35 := Tryz.zeroValue151
  t36 := Tryz.underlying152
  a36 := Tryz.isAgg152
  z36 := Tryz.sizeOf152
  v36 := Tryz.zeroValue152
  t41 := Tryz.underlying88
  a41 := Tryz.isAgg88
  z41 := Tryz.sizeOf88
  v41 := Tryz.zeroValue88
  t44 := Tryz.underlying139
  a44 := Tryz.isAgg139
  z44 := Tryz.sizeOf139
  v44 := Tryz.zeroValue139
  t46 := Tryz.underlying141
  a46 := Tryz.isAgg141
  z46 := Tryz.sizeOf141
  v46 := Tryz.zeroValue141
  t53 := Tryz.underlying169
  a53 := Tryz.isAgg169
  z53 := Tryz.sizeOf169
  v53 := Tryz.zeroValue169
  t57 := Tryz.underlying173
  a57 := Tryz.isAgg173
  z57 := Tryz.sizeOf173
  v57 := Tryz.zeroValue173
  t63 := Tryz.underlying181
  a63 := Tryz.isAgg181
  z63 := Tryz.sizeOf181
  v63 := Tryz.zeroValue181
  t64 := Tryz.underlying100
  a64 := Tryz.isAgg100
  z64 := Tryz.sizeOf100
  v64 := Tryz.zeroValue100 }
theorem Tryz.sorts49 (m : Nat) : AnyZ.SortsIn Tryz.prog Tryz.sorted49_ren Fence.wide m :=
  ⟨fun blk off cap ss W hH hblk hsz => callsIn_wide.2 (AnyM.slices_Sort_string Tryz.sort63 blk off cap ss W hH hblk hsz),
   fun p cap W => callsIn_wide.2 (AnyM.slices_Sort_string_none Tryz.sort63 p cap W)⟩

theorem Tryz.maps_Keys_50 (mb : Option Nat) (W : World) : CallsIn Fence.wide 5 Tryz.prog 89 #[.map mb] W fun e w' => e = .returned (.func (.func 107) #[] #[.pointer (some ⟨W.heap.size, 0, none⟩)]) ∧ w' = W.alloc (.cells #[.map mb] 69) :=
  AnyZ.keys_in Tryz.keys50 Fence.wide 5 trivial rfl mb W

set_option maxHeartbeats 1000000 in
theorem Tryz.slices_Sorted_keys_49_50 {H : Type} (b nn : Nat) (D0 : DataW H) (R : Value → Option (DataW H × List MemPlace)) (w : World) (hown : w.ownsMap Tryz.prog 9 R b nn D0) (hmax : Maps.size D0 ≤ maxLen) (hbytes : Maps.size D0 * 16 ≤ 140737488355328) :
    CallsIn Fence.wide 5 Tryz.prog 88 #[.func (.func 107) #[] #[.pointer (some ⟨w.heap.size, 0, none⟩)]] (w.alloc (.cells #[.map (some b)] 69)) fun e w' => ∃ (v : Value) (ss : List (List UInt8)), e = .returned v ∧ ss.Perm (strKeys D0) ∧
      w'.ownsRow (w.alloc (.cells #[.map (some b)] 69)).heap.size 9 1 v ss.length ((ss.mergeSort (fun x y => decide (x ≤ y))).map encStr) ∧ (v = .slice none 0 0 ↔ ss = []) ∧ Below (w.alloc (.cells #[.map (some b)] 69)).heap.size (w.alloc (.cells #[.map (some b)] 69)) w' := by
  have hbl := hown.lt
  have hseq : SeqGives Fence.wide 2 Tryz.prog 107 #[.pointer (some ⟨w.heap.size, 0, none⟩)] encStr (fun ss => ss.Perm (strKeys D0)) (Maps.size D0) (w.alloc (.cells #[.map (some b)] 69)) :=
    AnyZ.keys_gives (ρ := Tryz.keys50_ren) { Tryz.keys50 with } Fence.wide _ trivial rfl (by omega) w.heap.size b nn D0 _ (by simp) (by simp) (by
      obtain ⟨es, clock, hb, Ft, hs, hD⟩ := hown
      exact ⟨es, clock, (Below.heap_alloc _ _ b hbl).trans hb, Ft, hs, hD⟩)
  exact AnyZ.sorted_in Tryz.sorted49 Fence.wide 5 trivial trivial trivial trivial rfl (by omega) (Tryz.sorts49 _) (enters_of Tryz.func106 (by kernel_rfl) rfl) 107 #[.pointer (some ⟨w.heap.size, 0, none⟩)] trivial (enters_of Tryz.func107 (by kernel_rfl) rfl) _ _ hmax hbytes _ hseq

set_option maxHeartbeats 1000000 in
theorem Tryz.slices_Sorted_keys_nil_49_50 (w : World) :
    CallsIn Fence.wide 5 Tryz.prog 88 #[.func (.func 107) #[] #[.pointer (some ⟨w.heap.size, 0, none⟩)]] (w.alloc (.cells #[.map none] 69)) fun e w' => ∃ (v : Value) (ss : List (List UInt8)), e = .returned v ∧ ss = [] ∧
      w'.ownsRow (w.alloc (.cells #[.map none] 69)).heap.size 9 1 v ss.length ((ss.mergeSort (fun x y => decide (x ≤ y))).map encStr) ∧ (v = .slice none 0 0 ↔ ss = []) ∧ Below (w.alloc (.cells #[.map none] 69)).heap.size (w.alloc (.cells #[.map none] 69)) w' := by
  have hseq : SeqGives Fence.wide 2 Tryz.prog 107 #[.pointer (some ⟨w.heap.size, 0, none⟩)] encStr (fun ss : List (List UInt8) => ss = []) 0 (w.alloc (.cells #[.map none] 69)) :=
    AnyZ.keys_gives_nil (ρ := Tryz.keys50_ren) { Tryz.keys50 with } Fence.wide _ trivial rfl w.heap.size _ (by simp) (by simp)
  exact AnyZ.sorted_in Tryz.sorted49 Fence.wide 5 trivial trivial trivial trivial rfl (by omega) (Tryz.sorts49 _) (enters_of Tryz.func106 (by kernel_rfl) rfl) 107 #[.pointer (some ⟨w.heap.size, 0, none⟩)] trivial (enters_of Tryz.func107 (by kernel_rfl) rfl) _ 0 (Nat.zero_le _) (by omega) _ hseq
end Go.Proofs
namespace Go.Proofs.YtmphnoabkmoafaaGreatDoor
open Go.RowKit Go.Maps Go.Sort
set_option linter.unusedVariables false
variable {uu0 : Unit} [Base uu0]
theorem before_le : ∀ (a b : List UInt8), bytesBefore a b = true → a ≤ b
  | [], _, _ => List.nil_le _
  | a :: r, [], h => by simp [bytesBefore] at h
  | a :: r, b :: s, h => by
    unfold bytesBefore at h
    rw [List.cons_le_cons_iff]
    simp only [Bool.or_eq_true, Bool.and_eq_true, decide_eq_true_eq, beq_iff_eq] at h
    rcases h with h | ⟨rfl, h⟩
    · exact .inl h
    · exact .inr ⟨rfl, before_le r s h⟩
def idL (p : PR) : List UInt8 := p.id.data.toList
theorem strKeys_enc (bl : ByteArray → Nat) (L : List PR) : strKeys (encT bl L) = L.map idL := by
  show (L.map fun p => (keyL p.id, (DataW.lit (.int .i64 (bl p.id)) : DataW Unit))).map (fun p => strOf p.1) = _
  rw [List.map_map]
  rfl
theorem TabAt.sorted {w : World} {B T M : Nat} {bl : ByteArray → Nat} {L : List PR} (h : TabAt w B T M bl L) {ss : List (List UInt8)} (hp : ss.Perm (strKeys (encT bl L))) : ss.mergeSort (fun x y => decide (x ≤ y)) = L.map idL := by
  rw [strKeys_enc] at hp
  have h1 := mergeSort_of_perm hp
  rw [show (fun x y : List UInt8 => decide (x ≤ y)) = leB from rfl, h1]
  apply List.mergeSort_of_pairwise
  rw [List.pairwise_map]
  refine h.rising.imp fun {p q} hpq => ?_
  simp only [leB, decide_eq_true_eq]
  exact before_le _ _ hpq
set_option maxRecDepth 100000 in
set_option maxHeartbeats 1000000 in
theorem sorted_any (B T M : Nat) (bl : ByteArray → Nat) (L : List PR) (w : World) (h : TabAt w B T M bl L) (hl : L.length ≤ 1000000) :
    Calls Tryz.prog 52 #[ptr T] w fun e w' => ∃ v, e = .returned v ∧ w'.ownsRow w.heap.size 9 1 v L.length (L.map fun p => .string p.id) ∧ Below w.heap.size w w' := by
  have hmax : Maps.size (encT bl L) ≤ maxLen := by rw [size_encT]; unfold maxLen; omega
  have hbytes : Maps.size (encT bl L) * 16 ≤ 140737488355328 := by rw [size_encT]; omega
  refine (callsIn_wide (n := 6)).1 ?_
  have c0 := h.cellT
  have hsort := fun ss => h.sorted (ss := ss)
  have cS := Tryz.slices_Sorted_keys_49_50 M L.length (encT bl L) readP w h.map hmax hbytes
  have hfK : Fence.wide.fn 89 := trivial
  have hfS : Fence.wide.fn 88 := trivial
  clear h
  unfold ptr
  refine callsIn_of_wp Tryz.func52 rfl trivial ?_ rfl
  simp only [Tryz.ntmps52, List.size_toArray, List.length_cons, List.length_nil, Nat.reduceAdd, Nat.reduceSub, Array.replicate_succ, Array.replicate_zero, List.push_toArray, List.append_toArray, List.nil_append, List.cons_append]
  gi_wp2_with (first
    | (gi_at_call 89; refine (Tryz.maps_Keys_50 _ _).mono ?_; rintro e w' ⟨rfl, rfl⟩)
    | (gi_at_call 88; refine cS.mono ?_; rintro e w' ⟨v, ss, rfl, hS, hrow, hnil, hb⟩))
  go_ret
  have hls : ss.length = L.length := by rw [hS.length_eq, strKeys_enc, List.length_map]
  rw [hsort ss hS, hls] at hrow
  refine ⟨v, rfl, ?_, ((Below.refl _ w).alloc (Nat.le_refl _) _).trans (hb.mono (by simp))⟩
  have e : (L.map idL).map encStr = L.map fun p => Value.string p.id := by
    rw [List.map_map]
    apply List.map_congr_left
    intro p _
    rfl
  rw [e] at hrow
  exact ownsRow_base_a hrow (by simp)
end Go.Proofs.YtmphnoabkmoafaaGreatDoor
