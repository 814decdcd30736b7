/- (*Book).strangers: no more than the map of failures has entries. -/
import Derived.Test.YtkgbldkjpohinaaGreatDoorBookAdd
import Derived.Maps.RangeWalk
namespace Go.Proofs.YtkgbldkjpohinaaGreatDoor
open Go.RowKit Go.Maps
open Go.WideMaps (keyOf_string_mk)
theorem key9_inv {key : Value} {kl : Lit} (h : keyOf Tryz.prog 9 key = some kl) : ∃ s : ByteArray, key = .string s ∧ kl = .string s.data.toList ∧ s.size ≤ maxLen := by
  cases key <;> simp [keyOf, mapKey] at h
  exact ⟨_, rfl, h.2.symm, h.1⟩
set_option maxRecDepth 100000 in
set_option maxHeartbeats 1000000 in
theorem strangers_any (b mu mf nu nf : Nat) (Du Df : DataW Unit) (tries wait : Int) (w : World) (hB : BookAt w b tries wait mu mf) (hu : w.ownsMap Tryz.prog 9 readU mu nu Du) (hf : w.ownsMap Tryz.prog 9 readF mf nf Df) (hsz : Maps.size Df < 1000000) :
    Calls Tryz.prog 22 #[.pointer (some ⟨b, 0, none⟩)] w fun e w' => ∃ k : Nat, e = .returned (.int .i64 k) ∧ k ≤ Maps.size Df ∧ Below w.heap.size w w' := by
  have c3 : w.cell? ⟨b, 3, none⟩ = some (.map (some mf)) := by rw [cell_of_row w b 3 _ 47 (0, 0) hB]; rfl
  have c2 : w.cell? ⟨b, 2, none⟩ = some (.map (some mu)) := by rw [cell_of_row w b 2 _ 47 (0, 0) hB]; rfl
  have hlt : b < w.heap.size := (Array.getElem?_eq_some_iff.1 hB).1
  have hmu := hu.lt
  have hmf := hf.lt
  go_enter Tryz.func22, Tryz.ntmps22
  go_wp2_with (first
    | (at_range; refine wpList_range_own _ rfl _ 45 rfl 9 63 law9 und60 readF mf nf Df rfl hf ?_; intro w0 hrg0 hg0 hs0)
    | go_in)
  go_frame
  have hb0 : Below w.heap.size w w0 := (Below.refl _ _).grown hg0 (Nat.le_refl _) (fun k hk => by cases hk)
  go_loopw [3] (fun u wr => ∃ (left : Lit → Bool) (cnt k : Nat), u = .int .i64 k ∧ wr.ranges Tryz.prog 9 readF mf w.heap.size nf Df left cnt ∧ k + cnt ≤ Maps.size Df ∧ Below w.heap.size w wr) (fun _ wr => wr.rangeLeft mf w.heap.size)
  case atStart => exact ⟨_, _, 0, rfl, hrg0, by omega, hb0⟩
  case round =>
    clear hrg0 hg0 hs0 hb0
    obtain ⟨left, cnt, k, rfl, hrg, hk, hb⟩ := hrel
    go_wp2_with (first
      | (at_next; refine wpList_next_ranges _ rfl _ rfl 9 law9 readF (fun s : ByteArray => .string s) (fun p : Int × Int => .agg #[.int .i64 p.1, .int .i64 p.2]) (fun key kl h => by obtain ⟨s, rfl, _⟩ := key9_inv h; exact ⟨s, rfl⟩) (fun v y h => by obtain ⟨c, t, rfl, _⟩ := readF_inv h; exact ⟨(c, t), rfl⟩) mf w.heap.size nf Df _ _ rfl hrg ?_ ?_)
      | go_in)
    · intro _ hl0
      go_wp2
      go_ret
      exact ⟨k, rfl, by omega, hb⟩
    · intro s c t kl yd yp w1 cnt1 hkey hlx hv hat hrg1 hlt1 hg1 hs1 hen
      obtain ⟨s', es, hkl, hsl⟩ := key9_inv hkey
      obtain rfl : s = s' := by simpa using es
      have hb1 : Below w.heap.size w w1 := hb.grown hg1 hb.size (fun k hk => by cases hk; exact Nat.le_refl _)
      have c2' : w1.cell? ⟨b, 2, none⟩ = some (.map (some mu)) := (hb1.cell (p := ⟨b, 2, none⟩) hlt).trans c2
      have hu1 := ownsMap_below hu hb1 hmu
      go_wp2_with (first
        | (at_lookup; refine wpList_lookup_user _ rfl _ _ rfl mu nu Du rfl hu1 s rfl hsl ?_; intro p0 t0 q0 i0' hat0)
        | go_in)
      all_goals
        go_roundw
        case rel => first | exact ⟨_, cnt1, k + 1, by go_num, hrg1.alloc _, by omega, hb1.alloc hb1.size _⟩ | exact ⟨_, cnt1, k, rfl, hrg1.alloc _, by omega, hb1.alloc hb1.size _⟩
        case measure => rw [(hrg1.alloc _).left_eq, hrg.left_eq]; exact hlt1
end Go.Proofs.YtkgbldkjpohinaaGreatDoor
