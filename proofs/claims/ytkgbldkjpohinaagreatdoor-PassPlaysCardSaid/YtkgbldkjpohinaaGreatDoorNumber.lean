/- number: of any text. -/
import Derived.Test.YtkgbldkjpohinaaGreatDoorShelf
import Derived.Test.YtkgbldkjpohinaaGreatDoorTextL
import Derived.Test.YtkgbldkjpohinaaGreatDoorBookAwake
import Derived.Lib.AtoiAllCases
import Derived.Deep.Cut
namespace Go.Proofs.YtkgbldkjpohinaaGreatDoor
open Go.RowKit Go.Maps Go.Sort
set_option linter.unusedVariables false
/-- What the library's variables hold: the table, the two errors. -/
structure LibV (w : World) : Prop where
  pow : Lib.TabIs Tryz.prog w "internal/strconv.uint64pow10" .u64 Lib.pow10Tab
  lt : 3 < w.heap.size
  e2 : ∃ t p, w.cell? ⟨2, 0, none⟩ = some (.iface t p)
  e3 : ∃ t p, w.cell? ⟨3, 0, none⟩ = some (.iface t p)
theorem LibV.below {w w' : World} {B : Nat} (h : LibV w) (hb : Below B w w') (hB : w.heap.size ≤ B) : LibV w' := by
  obtain ⟨t, p, h2⟩ := h.e2
  obtain ⟨t3, p3, h3⟩ := h.e3
  have hl := h.lt
  exact ⟨Joins.tab_stays gpow h.pow hb hB, by have := hb.size; omega, ⟨t, p, (hb.cell (p := ⟨2, 0, none⟩) (by simp only; omega)).trans h2⟩, ⟨t3, p3, (hb.cell (p := ⟨3, 0, none⟩) (by simp only; omega)).trans h3⟩⟩
theorem atoi_any (s : ByteArray) (w : World) (hs : s.size ≤ 140737488355328) (h : LibV w) :
    Calls Tryz.prog 56 #[.string s] w fun e w' => ∃ (n : Int) (ev : Value), e = .returned (.tuple #[.int .i64 n, ev]) ∧ ((ev = .nilIface ∧ -9223372036854775808 ≤ n ∧ n ≤ 9223372036854775807) ∨ ∃ t p, ev = .iface t p) ∧ Below w.heap.size w w' := by
  obtain ⟨t2, p2, h2⟩ := h.e2
  obtain ⟨t3, p3, h3⟩ := h.e3
  cases hA : Lib.atoiAll s.data.toList with
  | ok v =>
    refine (Tryz.strconv_Atoi_ok s (by omega) v hA w).mono ?_
    rintro e w' ⟨rfl, hw⟩
    refine ⟨v, _, rfl, .inl ⟨rfl, Lib.atoiAll_bounds hA⟩, ?_⟩
    rcases hw with rfl | ⟨t, rfl⟩
    · exact Below.refl _ _
    · exact Joins.below_bytesWorld _ _ _ _ (Nat.le_refl _)
  | «syntax» =>
    refine (Tryz.strconv_Atoi_syntax s (by omega) hA _ w h2 (.inr ⟨t2, p2, rfl⟩)).mono ?_
    rintro e w' ⟨N, rfl, _, _, hb⟩
    exact ⟨0, _, rfl, .inr ⟨_, _, rfl⟩, hb⟩
  | range =>
    refine (Tryz.strconv_Atoi_range s (by omega) hA _ w h3 (.inr ⟨t3, p3, rfl⟩)).mono ?_
    rintro e w' ⟨N, rfl, _, _, hb⟩
    exact ⟨_, _, rfl, .inr ⟨_, _, rfl⟩, hb⟩
theorem itoaF_any (x : Int) (w : World) (h0 : -9223372036854775808 ≤ x) (h1 : x ≤ 9223372036854775807) (ht : Lib.TabIs Tryz.prog w "internal/strconv.uint64pow10" .u64 Lib.pow10Tab) :
    Calls Tryz.prog 32 #[.int .i64 x] w fun e w' => e = .returned (.string ⟨(Lib.itoa x).toArray⟩) ∧ Below w.heap.size w w' := by
  refine (Tryz.strconv_Itoa x (by omega) (by omega) w ht).mono ?_
  rintro e w' ⟨rfl, k, os, rfl⟩
  exact ⟨rfl, ⟨rfl, rfl, rfl, by simp [grow], fun i hi => by
    show ((w.drewN k).heap ++ os)[i]? = _
    rw [Array.getElem?_append_left (by show i < w.heap.size; omega)]
    rfl⟩⟩
def NumR (s : ByteArray) (w : World) (e : Ending) (w' : World) : Prop := ∃ (n : Int) (r : Bool), e = .returned (.tuple #[.int .i64 n, .bool r]) ∧ (r = true → s = ⟨(Lib.itoa n).toArray⟩) ∧ Below w.heap.size w w'
theorem eq_of_beq {a b : ByteArray} (h : (a.toList == b.toList) = true) : a = b := by
  by_cases e : a = b
  · exact e
  · rw [beq_false_of e] at h; cases h
set_option maxRecDepth 100000 in
set_option maxHeartbeats 2000000 in
theorem number_any (s : ByteArray) (w : World) (hs : s.size ≤ 140737488355328) (hv : LibV w) : Calls Tryz.prog 44 #[.string s] w (NumR s w) := by
  have C := Lib.hid (atoi_any s w hs hv)
  have HV := Lib.hid hv
  clear hv
  go_enter Tryz.func44, Tryz.ntmps44
  go_upto_region 2 with (go_at_call 56; refine C.out.mono ?_; rintro e w1 ⟨n, ev, rfl, hev, b1⟩)
  rcases hev with ⟨rfl, n0, n1⟩ | ⟨t, p, rfl⟩
  · have IT := Lib.hid (itoaF_any n w1 n0 n1 (HV.out.below b1 (Nat.le_refl _)).pow)
    obtain ⟨TT, hTT⟩ : ∃ x : ByteArray, x = ⟨(Lib.itoa n).toArray⟩ := ⟨_, rfl⟩
    rw [← hTT] at IT
    have HT := Lib.hid hTT
    clear hTT
    cases hq : (TT.toList == s.toList)
    · go_wp2_with (go_at_call 32; refine IT.out.mono ?_; rintro e w2 ⟨rfl, b2⟩)
      go_ret2
      exact ⟨n, false, rfl, (fun h => by cases h), b1.trans (b2.mono b1.size)⟩
    · have HQ := Lib.hid hq
      go_wp2_with (go_at_call 32; refine IT.out.mono ?_; rintro e w2 ⟨rfl, b2⟩)
      go_ret2
      exact ⟨n, true, rfl, (fun _ => by rw [← HT.out]; exact (eq_of_beq HQ.out).symm), b1.trans (b2.mono b1.size)⟩
  · go_wp2
    go_ret2
    exact ⟨n, false, rfl, (fun h => by cases h), b1⟩
end Go.Proofs.YtkgbldkjpohinaaGreatDoor
