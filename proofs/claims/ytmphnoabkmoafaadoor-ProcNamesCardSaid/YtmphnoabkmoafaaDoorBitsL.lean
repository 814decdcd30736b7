/- Whole numbers and masks; strings that rise. -/
import Derived.Test.YtmphnoabkmoafaaDoorGame
import Derived.Laws.BitsLemmas
import Derived.WideAt
namespace Go.Proofs.YtmphnoabkmoafaaDoor
open Go.RowKit
theorem and_small (n : Int) (m : Nat) (hm : m < 9223372036854775808) : 0 ≤ bits BinOp.and IntKind.i64 n (m : Int) ∧ bits BinOp.and IntKind.i64 n (m : Int) ≤ m := by
  have h1 : m % 2 ^ 64 = m := Nat.mod_eq_of_lt (by omega)
  have e : bits BinOp.and IntKind.i64 n (m : Int) = IntKind.i64.wrap (((BitVec.ofInt 64 n).toNat &&& m : Nat) : Int) := by
    unfold bits
    simp only [show IntKind.i64.bits = 64 from rfl, BitVec.ofInt_natCast, BitVec.toNat_and, BitVec.toNat_ofNat, h1]
    rfl
  rw [e, IntKind.wrap_i64]
  have h2 : (BitVec.ofInt 64 n).toNat &&& m ≤ m := Nat.and_le_right
  omega
theorem less_before : ∀ a b : List UInt8, Op.bytesLess a b = bytesBefore a b
  | [], [] => by simp [Op.bytesLess, bytesBefore]
  | [], _ :: _ => by simp [Op.bytesLess, bytesBefore]
  | _ :: _, [] => by simp [Op.bytesLess, bytesBefore]
  | a :: r, b :: s => by simp [Op.bytesLess, bytesBefore, less_before r s]
theorem rises_walk {s t : ByteArray} (h : (keyL s).before (keyL t) = true) : (Op.bytesLess t.toList s.toList || t.toList == s.toList) = false := by
  have h : bytesBefore s.data.toList t.data.toList = true := h
  rw [less_before, ByteArray.toList_eq, ByteArray.toList_eq]
  rw [Bool.or_eq_false_iff]
  constructor
  · cases hb : bytesBefore t.data.toList s.data.toList
    · rfl
    · exact absurd (WideShapes.bytes_trans _ _ _ h hb) (by rw [WideAt.bytes_irrefl]; simp)
  · rw [beq_eq_false_iff_ne]
    intro e
    rw [e, WideAt.bytes_irrefl] at h
    cases h
end Go.Proofs.YtmphnoabkmoafaaDoor
