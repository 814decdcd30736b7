/- The table's names, rising. -/
import Derived.Test.YtmphnoabkmoafaaDoorExit
import Derived.Test.YtmphnoabkmoafaaDoorIter
namespace Go.Proofs.YtmphnoabkmoafaaDoor
open Go.RowKit Go.Maps Go.Sort
set_option linter.unusedVariables false
theorem before_le : ∀ (a b : List UInt8), bytesBefore a b = true → a ≤ b
  | [], _, _ => List.nil_le _
  | a :: r, [], h => by simp [bytesBefore] at h
  | a :: r, b :: s, h => by
    unfold bytesBefore at h
    rw [List.cons_le_cons_iff]
    simp only [Bool.or_eq_true, Bool.and_eq_true, decide_eq_true_eq, beq_iff_eq] at h
    rcases h with h | ⟨rfl, h⟩
    · exact .inl h
    · exact .inr ⟨rfl, before_le r s h⟩
def idL (p : PR) : List UInt8 := p.id.data.toList
theorem strKeys_enc (bl : ByteArray → Nat) (L : List PR) : strKeys (encT bl L) = L.map idL := by
  show (L.map fun p => (keyL p.id, (DataW.lit (.int .i64 (bl p.id)) : DataW Unit))).map (fun p => strOf p.1) = _
  rw [List.map_map]
  rfl
theorem TabAt.sorted {w : World} {B T M : Nat} {bl : ByteArray → Nat} {L : List PR} (h : TabAt w B T M bl L) {ss : List (List UInt8)} (hp : ss.Perm (strKeys (encT bl L))) : ss.mergeSort (fun x y => decide (x ≤ y)) = L.map idL := by
  rw [strKeys_enc] at hp
  have h1 := mergeSort_of_perm hp
  rw [show (fun x y : List UInt8 => decide (x ≤ y)) = leB from rfl, h1]
  apply List.mergeSort_of_pairwise
  rw [List.pairwise_map]
  refine h.rising.imp fun {p q} hpq => ?_
  simp only [leB, decide_eq_true_eq]
  exact before_le _ _ hpq
set_option maxRecDepth 100000 in
set_option maxHeartbeats 1000000 in
theorem sorted_any (B T M : Nat) (bl : ByteArray → Nat) (L : List PR) (w : World) (h : TabAt w B T M bl L) (hl : L.length ≤ 1000000) :
    Calls Tryd.prog 30 #[ptr T] w fun e w' => ∃ v, e = .returned v ∧ w'.ownsRow w.heap.size 9 1 v L.length (L.map fun p => .string p.id) ∧ Below w.heap.size w w' := by
  have hmax : Maps.size (encT bl L) ≤ maxLen := by rw [size_encT]; unfold maxLen; omega
  have hbytes : Maps.size (encT bl L) * 16 ≤ 140737488355328 := by rw [size_encT]; omega
  refine (callsIn_wide (n := 6)).1 ?_
  have c0 := h.cellT
  have hsort := fun ss => h.sorted (ss := ss)
  have cS := Tryd.slices_Sorted_keys_49_50 M L.length (encT bl L) readP w h.map hmax hbytes
  have hfK : Fence.wide.fn 50 := trivial
  have hfS : Fence.wide.fn 49 := trivial
  clear h
  unfold ptr
  refine callsIn_of_wp Tryd.func30 rfl trivial ?_ rfl
  simp only [Tryd.ntmps30, List.size_toArray, List.length_cons, List.length_nil, Nat.reduceAdd, Nat.reduceSub, Array.replicate_succ, Array.replicate_zero, List.push_toArray, List.append_toArray, List.nil_append, List.cons_append]
  gi_wp2_with (first
    | (gi_at_call 50; refine (Tryd.maps_Keys_50 _ _).mono ?_; rintro e w' ⟨rfl, rfl⟩)
    | (gi_at_call 49; refine cS.mono ?_; rintro e w' ⟨v, ss, rfl, hS, hrow, hnil, hb⟩))
  go_ret
  have hls : ss.length = L.length := by rw [hS.length_eq, strKeys_enc, List.length_map]
  rw [hsort ss hS, hls] at hrow
  refine ⟨v, rfl, ?_, ((Below.refl _ w).alloc (Nat.le_refl _) _).trans (hb.mono (by simp))⟩
  have e : (L.map idL).map encStr = L.map fun p => Value.string p.id := by
    rw [List.map_map]
    apply List.map_congr_left
    intro p _
    rfl
  rw [e] at hrow
  exact ownsRow_base_a hrow (by simp)
end Go.Proofs.YtmphnoabkmoafaaDoor
