/- (*Book).line: what its walk leans on. -/
import Derived.Test.YtkgbldkjpohinaaGreatDoorLetters
import Derived.Test.YtkgbldkjpohinaaGreatDoorFields
import Derived.Test.YtkgbldkjpohinaaGreatDoorNumber
import Derived.Test.YtkgbldkjpohinaaGreatDoorUnhex
import Derived.Test.YtkgbldkjpohinaaGreatDoorLat
import Derived.Deep.DeepCutAuto
import Derived.Deep.CutBlock
namespace Go.Proofs.YtkgbldkjpohinaaGreatDoor
open Go.RowKit Go.Maps Go.Sort LatT
set_option linter.unusedVariables false
theorem size_le_sizes : ∀ (l : List ByteArray) (x : ByteArray), x ∈ l → x.size ≤ sizes l
  | [], _, h => by cases h
  | y :: r, x, h => by
    have e : sizes (y :: r) = y.size + sizes r := by simp [sizes]
    rcases List.mem_cons.1 h with h | h
    · rw [h]; omega
    · have := size_le_sizes r x h; omega
/-- A book's line that was read. -/
structure Ent (Du : DataW Unit) (k sa ha : ByteArray) (t n : Int) : Prop where
  new : Maps.has Du (.string k.data.toList) = false
  k16 : k.size ≤ 16
  s16 : sa.size ≤ 16
  h64 : ha.size ≤ 64
  t0 : 0 ≤ t
  t1 : t ≤ 100
  n0 : 1 ≤ n
  n1 : n ≤ 2147483647
/-- What a lookup of a user answers. -/
def lookV (D : DataW Unit) (k : ByteArray) : Value := match D.atKey (.string k.data.toList) noU with
  | .agg [.lit (.string s), .lit (.int .i64 t), .lit (.string h), .lit (.int .i64 n)] => .agg #[.string ⟨s.toArray⟩, .int .i64 t, .string ⟨h.toArray⟩, .int .i64 n]
  | _ => .agg #[.string ⟨#[]⟩, .int .i64 0, .string ⟨#[]⟩, .int .i64 0]
theorem lookV_ent {D : DataW Unit} {k s h : ByteArray} {t n : Int} (e : D.atKey (.string k.data.toList) noU = entD s t h n) : lookV D k = .agg #[.string s, .int .i64 t, .string h, .int .i64 n] := by
  unfold lookV
  rw [e]
  cases s
  cases h
  rfl
theorem lookV_shape (D : DataW Unit) (k : ByteArray) : ∃ s t h n, lookV D k = .agg #[.string s, .int .i64 t, .string h, .int .i64 n] := by
  unfold lookV
  split
  · exact ⟨_, _, _, _, rfl⟩
  · exact ⟨_, _, _, _, rfl⟩
theorem look_user {w : World} {mu nu : Nat} {D : DataW Unit} (h : w.ownsMap Tryz.prog 9 readU mu nu D) (k : ByteArray) (hk : k.size ≤ maxLen) :
    (Instr.lookup 44 (.map (some mu)) (.string k) true).run Tryz.prog w = .ok (.tuple #[lookV D k, .bool (Maps.has D (.string k.data.toList))]) w := by
  obtain ⟨v, ps, hrun, hv⟩ := h.look_ok law9 und59 (zero64 w) (zd := noU) (zp := []) rfl (WideMaps.keyOf_string_mk und9 hk)
  obtain ⟨sa, t2, ha, m, rfl, hz⟩ := readU_inv hv
  rw [hrun, lookV_ent (congrArg Prod.fst hz)]
end Go.Proofs.YtkgbldkjpohinaaGreatDoor
