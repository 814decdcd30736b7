/- strings.Lines: the iterator. -/
import Derived.RangeFuncNested
import Derived.RangeFuncBound
import Derived.RangeFuncCalls
import Derived.RangeFuncLeaves
import Derived.Shelf.Abstract
import Derived.Shelf.RegionOpen
import Derived.WalkKit
import Derived.OwnWalkIn
import Derived.TacticsInMore
import Derived.LoopNIn
import Derived.LoopIn
import Derived.Test.YtkgbldkjpohinaaGreatDoorRangeBox
import Derived.Test.YtkgbldkjpohinaaGreatDoorShelf
import Derived.Lib.IndexLaws
namespace Go.Proofs.YtkgbldkjpohinaaGreatDoor
open Go.RowKit Go.Shelf
attribute [local go_sem] Oper.semAt_some
set_option linter.unusedVariables false
theorem index_cases (r : ByteArray) (c : UInt8) : (∃ k : Nat, Lib.indexByte r.data.toList c = k ∧ k < r.size) ∨ Lib.indexByte r.data.toList c = -1 := by
  have h := Lib.indexByte_ge r.data.toList c
  by_cases h1 : Lib.indexByte r.data.toList c = -1
  · exact .inr h1
  · obtain ⟨k, hk⟩ : ∃ k : Nat, Lib.indexByte r.data.toList c = k := ⟨(Lib.indexByte r.data.toList c).toNat, by omega⟩
    refine .inl ⟨k, hk, ?_⟩
    have := (Lib.indexByte_some hk).1
    have := (List.getElem?_eq_some_iff.1 this).1
    simpa using this
/-- The length of what the box holds. -/
def boxLen (w : World) (c : Nat) : Nat := match w.cell? ⟨c, 0, none⟩ with | some (.string r) => r.size | _ => 0
theorem boxLen_eq {w : World} {c : Nat} {r : ByteArray} (h : w.heap[c]? = some (.cells #[.string r] 9 (0, 0))) : boxLen w c = r.size := by
  unfold boxLen; rw [cell_of_row w c 0 _ 9 (0, 0) h]; rfl
set_option maxRecDepth 100000 in
set_option maxHeartbeats 4000000 in
theorem lines_in (n : Nat) (hn : 1 ≤ n) (c : Nat) (s : ByteArray) (hs : s.size ≤ 1048576) : SeqBox Fence.wide n Tryz.prog 41 #[.pointer (some ⟨c, 0, none⟩)] c s := by
  intro l J Jx W hc hJ hJx hY h0
  refine callsIn_of_wp Tryz.func41 rfl trivial ?_ rfl
  simp only [Tryz.ntmps41, List.size_toArray, List.length_cons, List.length_nil, Nat.reduceAdd, Nat.reduceSub, Array.replicate_succ, Array.replicate_zero, List.push_toArray, List.append_toArray, List.nil_append, List.cons_append]
  gi_wp2
  gi_loopw [3, 4] (fun _ _ wr => ∃ (pre : List ByteArray) (r : ByteArray), wr.heap[c]? = some (.cells #[.string r] 9 (0, 0)) ∧ J pre wr ∧ pre.length + r.size ≤ s.size) (fun _ _ wr => boxLen wr c)
  case atStart => exact ⟨[], s, hc, h0, by simp⟩
  case round =>
    obtain ⟨pre, r, hr, hj, hl⟩ := hrel
    have c0 : wr.cell? ⟨c, 0, none⟩ = some (.string r) := by rw [cell_of_row wr c 0 _ 9 (0, 0) hr]; rfl
    have f0 : wr.frozen? ⟨c, 0, none⟩ = false := frozen_of_row wr c 0 _ 9 hr
    by_cases hz : 0 < r.size
    · have gs : ∀ u : Value, wr.grownBy (wr.setCell ⟨c, 0, none⟩ u) (some c) := fun u => ⟨rfl, rfl, rfl, by simp, fun k _ hk => heap_setCell_other wr ⟨c, 0, none⟩ k u (fun e => hk (by simp at e; rw [e]))⟩
      have hs2 : ∀ u : Value, (wr.setCell ⟨c, 0, none⟩ u).heap[c]? = some (.cells #[u] 9 (0, 0)) := fun u => by rw [heap_setCell_same wr c 0 _ 9 u hr]; rfl
      have GS := Lib.hid gs
      have HS2 := Lib.hid hs2
      clear gs hs2
      have hbl := boxLen_eq hr
      have HBL := Lib.hid hbl
      clear hbl
      rcases index_cases r 10 with ⟨k, hk, hkl⟩ | hk
      · gi_wp2_with (refine ⟨trivial, ?_⟩; gi_at_call 42; refine (callsIn_wide.2 (Tryz.strings_IndexByte r 10 _)).mono ?_; rintro e w' ⟨rfl, hw⟩; rw [hw, show (10 : Int).toNat.toUInt8 = 10 from rfl, hk])
        have hk1 : (k : Int) + 1 ≤ r.size := by omega
        gi_region
        all_goals
          obtain ⟨fn, tmps, assign, body, hy, hR⟩ := hY pre (r.extract 0 (k + 1)) (wr.setCell ⟨c, 0, none⟩ (.string (r.extract (k + 1) r.size))).drew (hJ _ _ _ hj ⟨rfl, rfl, rfl, (GS.out (.string (r.extract (k + 1) r.size))).size, (GS.out (.string (r.extract (k + 1) r.size))).block⟩) (by omega) (by rw [ByteArray.size_extract]; omega)
          have HR := Lib.hid hR
          clear hR
          have hex : (r.extract (k + 1) r.size).size = r.size - (k + 1) := by rw [ByteArray.size_extract]; omega
          have HEX := Lib.hid hex
          clear hex
          gi_wp2
          refine HR.out.mono ?_
          rintro e W3 (⟨rfl, hJ3, hk3⟩ | ⟨rfl, hJx3⟩)
          · gi_wp2
            go_roundw
            case rel => exact ⟨pre ++ [r.extract 0 (k + 1)], r.extract (k + 1) r.size, hk3.trans (HS2.out _), hJ3, by rw [List.length_append, HEX.out]; show pre.length + 1 + (r.size - (k + 1)) ≤ s.size; omega⟩
            case measure => rw [HBL.out, boxLen_eq (hk3.trans (HS2.out _)), HEX.out]; omega
          · gi_wp2
            refine bodyPost_ret (results_none rfl _ _ _) rfl ?_
            exact ⟨⟨_, rfl⟩, .inr ⟨_, hJx3⟩⟩
      · obtain ⟨fn, tmps, assign, body, hy, hR⟩ := hY pre r (wr.setCell ⟨c, 0, none⟩ (.string ⟨#[]⟩)) (hJ _ _ _ hj (GS.out _)) (by omega) (by omega)
        have HR := Lib.hid hR
        clear hR
        gi_wp2_with (refine ⟨trivial, ?_⟩; gi_at_call 42; refine (callsIn_wide.2 (Tryz.strings_IndexByte r 10 _)).mono ?_; rintro e w' ⟨rfl, hw⟩; rw [hw, show (10 : Int).toNat.toUInt8 = 10 from rfl, hk])
        refine HR.out.mono ?_
        rintro e W3 (⟨rfl, hJ3, hk3⟩ | ⟨rfl, hJx3⟩)
        · gi_wp2
          go_roundw
          case rel => exact ⟨pre ++ [r], ⟨#[]⟩, hk3.trans (HS2.out _), hJ3, by rw [List.length_append]; show pre.length + 1 + 0 ≤ s.size; omega⟩
          case measure => rw [HBL.out, boxLen_eq (hk3.trans (HS2.out _))]; exact hz
        · gi_wp2
          refine bodyPost_ret (results_none rfl _ _ _) rfl ?_
          exact ⟨⟨_, rfl⟩, .inr ⟨_, hJx3⟩⟩
    · have hz0 : r.size = 0 := by omega
      gi_wp2
      refine bodyPost_end (results_none rfl _ _ _) rfl ?_
      exact ⟨⟨_, rfl⟩, .inl ⟨pre, by omega, hj⟩⟩
end Go.Proofs.YtkgbldkjpohinaaGreatDoor
