/- number: of any text. -/
import Derived.Test.YtkgbldkjpohinaaGreatDoorShelf
import Derived.Test.YtkgbldkjpohinaaGreatDoorTextL
import Derived.Test.YtkgbldkjpohinaaGreatDoorBookAwake
import Derived.Lib.AtoiAllCases
import Derived.Deep.Cut
namespace Go.Proofs.YtkgbldkjpohinaaGreatDoor
open Go.RowKit Go.Maps Go.Sort
set_option linter.unusedVariables false
/-- What the library's variables hold: the table, the two errors. -/
structure LibV (w : World) : Prop where
  pow : Lib.TabIs Tryz.prog w "internal/strconv.uint64pow10" .u64 Lib.pow10Tab
  lt : 3 < w.heap.size
  e2 : ∃ t p, w.cell? ⟨2, 0, none⟩ = some (.iface t p)
  e3 : ∃ t p, w.cell? ⟨3, 0, none⟩ = some (.iface t p)
theorem LibV.below {w w' : World} {B : Nat} (h : LibV w) (hb : Below B w w') (hB : w.heap.size ≤ B) : LibV w' := by
  obtain ⟨t, p, h2⟩ := h.e2
  obtain ⟨t3, p3, h3⟩ := h.e3
  have hl := h.lt
  exact ⟨Joins.tab_stays gpow h.pow hb hB, by have := hb.size; omega, ⟨t, p, (hb.cell (p := ⟨2, 0, none⟩) (by simp only; omega)).trans h2⟩, ⟨t3, p3, (hb.cell (p := ⟨3, 0, none⟩) (by simp only; omega)).trans h3⟩⟩
theorem itoaF_any (x : Int) (w : World) (h0 : -9223372036854775808 ≤ x) (h1 : x ≤ 9223372036854775807) (ht : Lib.TabIs Tryz.prog w "internal/strconv.uint64pow10" .u64 Lib.pow10Tab) :
    Calls Tryz.prog 32 #[.int .i64 x] w fun e w' => e = .returned (.string ⟨(Lib.itoa x).toArray⟩) ∧ Below w.heap.size w w' := by
  refine (Tryz.strconv_Itoa x (by omega) (by omega) w ht).mono ?_
  rintro e w' ⟨rfl, k, os, rfl⟩
  exact ⟨rfl, ⟨rfl, rfl, rfl, by simp [grow], fun i hi => by
    show ((w.drewN k).heap ++ os)[i]? = _
    rw [Array.getElem?_append_left (by show i < w.heap.size; omega)]
    rfl⟩⟩
theorem eq_of_beq {a b : ByteArray} (h : (a.toList == b.toList) = true) : a = b := by
  by_cases e : a = b
  · exact e
  · rw [beq_false_of e] at h; cases h
end Go.Proofs.YtkgbldkjpohinaaGreatDoor
