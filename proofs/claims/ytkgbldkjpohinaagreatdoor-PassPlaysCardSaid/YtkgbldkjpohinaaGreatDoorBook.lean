/- pass: letters, may, New; how a Book lies in memory. -/
import Derived.Test.YtkgbldkjpohinaaGreatDoorTypes
import Derived.Test.YtkgbldkjpohinaaGreatDoorBytes
import Derived.Laws.RangeString
import Derived.Laws.RangeAny
import Derived.Lib.Hide
import Derived.Maps.OwnSet
import Derived.Deep.RegionWith
import Derived.Maps.RangeWalk
namespace Go.Proofs.YtkgbldkjpohinaaGreatDoor
open Go.RowKit Go.Maps
def Lows (s : ByteArray) : Prop := ∀ (i : Nat) (h : i < s.size), 97 ≤ (s[i]'h).toNat ∧ (s[i]'h).toNat ≤ 122
set_option maxRecDepth 100000 in
theorem letters_low (s : ByteArray) (d : Bool) (w : World) (hl : Lows s) (h1 : 1 ≤ s.size) (h2 : s.size ≤ 16) :
    Calls Tryz.prog 35 #[.string s, .bool d] w fun e w' => e = .returned (.bool true) ∧ Below w.heap.size w w' := by
  go_enter Tryz.func35, Tryz.ntmps35
  go_wp2
  go_loopw [6] (fun _ wr => ∃ pos, pos ≤ s.size ∧ wr = w.iter s pos) (fun _ wr => s.size - wr.iterPos w.heap.size)
  case atStart => exact ⟨0, by omega, rfl⟩
  case round =>
    obtain ⟨pos, hp, rfl⟩ := hrel
    by_cases hlt : pos < s.size
    · obtain ⟨ha, hb⟩ := hl pos hlt
      have hn := fun ty => run_next_ascii (P := Tryz.prog) w s pos ty hlt (by omega)
      obtain ⟨c, hc⟩ : ∃ c : Nat, c = (s[pos]'hlt).toNat := ⟨_, rfl⟩
      rw [← hc] at ha hb
      simp only [← hc] at hn
      clear hc
      go_wp2
      go_roundw
      case rel => exact ⟨pos + 1, by omega, rfl⟩
      case measure => rw [World.iterPos_iter, World.iterPos_iter]; omega
    · have hn := fun ty => run_next_end (P := Tryz.prog) w s pos ty hlt
      have d1 : decide ((s.size : Int) ≤ 16) = true := by simp; omega
      go_wp2
      go_ret
      exact ⟨rfl, (Below.refl _ _).alloc (Nat.le_refl _) _⟩
set_option maxRecDepth 100000 in
theorem may_low (name salt : ByteArray) (steps id : Int) (w : World) (hl : Lows name) (h1 : 1 ≤ name.size) (h2 : name.size ≤ 16) (sl : Lows salt) (s1 : 1 ≤ salt.size) (s2 : salt.size ≤ 16) (a0 : 0 ≤ steps) (a1 : steps ≤ 100) (i0 : 1 ≤ id) (i1 : id ≤ 2147483647) :
    Calls Tryz.prog 16 #[.string name, .string salt, .int .i64 steps, .int .i64 id] w fun e w' => e = .returned (.bool true) ∧ Below w.heap.size w w' := by
  have d1 : decide (steps ≤ 100) = true := by simp; omega
  have d2 : decide (steps ≥ 0) = true := by simp; omega
  have d3 : decide (id ≥ 1) = true := by simp; omega
  have d4 : decide (id ≤ 2147483647) = true := by simp; omega
  go_enter Tryz.func16, Tryz.ntmps16
  go_wp2_with (first
    | (go_at_call_of 35 (Value.bool false); refine (letters_low name false _ hl h1 h2).mono ?_; rintro e w1 ⟨rfl, hb1⟩)
    | (go_at_call_of 35 (Value.bool true); refine (letters_low salt true _ sl s1 s2).mono ?_; rintro e w2 ⟨rfl, hb2⟩))
  go_ret
  exact ⟨rfl, hb1.trans (hb2.mono hb1.size)⟩
/-- A Book's own block. -/
def BookAt (w : World) (b : Nat) (tries wait : Int) (mu mf : Nat) : Prop := w.heap[b]? = some (.cells #[.int .i64 tries, .int .i64 wait, .map (some mu), .map (some mf)] 47 (0, 0))
/-- A user's entry: salt, steps, hash, number. -/
def entD (salt : ByteArray) (steps : Int) (hash : ByteArray) (id : Int) : DataW Unit := .agg [.lit (.string salt.data.toList), .lit (.int .i64 steps), .lit (.string hash.data.toList), .lit (.int .i64 id)]
def readU (v : Value) : Option (DataW Unit × List MemPlace) := match v with
  | .agg cs => match cs.toList with
    | [.string s, .int .i64 t, .string h, .int .i64 n] => some (entD s t h n, [])
    | _ => none
  | _ => none
def failD (count at_ : Int) : DataW Unit := .agg [.lit (.int .i64 count), .lit (.int .i64 at_)]
def readF (v : Value) : Option (DataW Unit × List MemPlace) := match v with
  | .agg cs => match cs.toList with
    | [.int .i64 c, .int .i64 t] => some (failD c t, [])
    | _ => none
  | _ => none
set_option maxRecDepth 100000 in
theorem new_any (tries wait : Int) (w : World) (h0 : 1 ≤ tries) (h1 : tries ≤ 9) (h2 : 1 ≤ wait) (h3 : wait ≤ 1000000) :
    Calls Tryz.prog 4 #[.int .i64 tries, .int .i64 wait] w fun e w' => ∃ b mu mf : Nat, e = .returned (.tuple #[.pointer (some ⟨b, 0, none⟩), .int .i64 0]) ∧ BookAt w' b tries wait mu mf ∧ w'.ownsMap Tryz.prog 9 readU mu 0 (.map []) ∧ w'.ownsMap Tryz.prog 9 readF mf 0 (.map []) ∧
      w.heap.size ≤ mu ∧ mu < mf ∧ mf < b ∧ Below w.heap.size w w' := by
  have d1 : decide (tries < 1) = false := by simp; omega
  have d2 : decide (tries > 9) = false := by simp; omega
  have d3 : decide (wait < 1) = false := by simp; omega
  have d4 : decide (wait > 1000000) = false := by simp; omega
  have hmm := @run_makeMap Tryz.prog
  go_enter Tryz.func4, Tryz.ntmps4
  go_wp2
  go_ret2
  have m1 : (w.alloc (.map #[] 0)).ownsMap Tryz.prog 9 readU w.heap.size 0 (.map []) := World.ownsMap_made w Tryz.prog 9 readU
  have m2 := World.ownsMap_made (w.alloc (.map #[] 0)) Tryz.prog 9 readF
  have e1 : (w.alloc (.map #[] 0)).heap.size = w.heap.size + 1 := by simp
  have e2 : ((w.alloc (.map #[] 0)).alloc (.map #[] 0)).heap.size = w.heap.size + 1 + 1 := by simp
  rw [e1] at m2
  have m3 := heap_alloc_new ((w.alloc (.map #[] 0)).alloc (.map #[] 0)) (.cells #[.int .i64 tries, .int .i64 wait, .map (some w.heap.size), .map (some (w.heap.size + 1))] 47)
  rw [e2] at m3
  exact ⟨w.heap.size + 1 + 1, w.heap.size, w.heap.size + 1, rfl, m3, (m1.alloc _).alloc _, m2.alloc _, by omega, by omega, by omega, (((Below.refl _ _).alloc (Nat.le_refl _) _).alloc (by simp) _).alloc (by simp; omega) _⟩
end Go.Proofs.YtkgbldkjpohinaaGreatDoor
