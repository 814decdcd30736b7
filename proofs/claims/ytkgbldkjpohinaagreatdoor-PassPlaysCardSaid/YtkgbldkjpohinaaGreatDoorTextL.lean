/- A book's text, plainly; what the walk of (*Book).Text leans on. -/
import Derived.Test.YtkgbldkjpohinaaGreatDoorBookAdd
import Derived.Test.YtkgbldkjpohinaaGreatDoorShelf
import Derived.Test.YtkgbldkjpohinaaGreatDoorIter
import Derived.Lib.ItoaLen
import Derived.Lib.SmallJoins
namespace Go.Proofs.YtkgbldkjpohinaaGreatDoor
open Go.RowKit Go.Maps Go.Sort
set_option linter.unusedVariables false
def lineB (name salt : ByteArray) (t : Int) (hash : ByteArray) (n : Int) : ByteArray :=
  name ++ ⟨#[58]⟩ ++ salt ++ ⟨#[58]⟩ ++ ⟨(Lib.itoa t).toArray⟩ ++ ⟨#[58]⟩ ++ hash ++ ⟨#[58]⟩ ++ ⟨(Lib.itoa n).toArray⟩ ++ ⟨#[10]⟩
def lineOf (k : List UInt8) : DataW Unit → List UInt8
  | .agg [.lit (.string s), .lit (.int .i64 t), .lit (.string h), .lit (.int .i64 n)] => (lineB ⟨k.toArray⟩ ⟨s.toArray⟩ t ⟨h.toArray⟩ n).data.toList
  | _ => []
theorem lineOf_ent (k : List UInt8) (s : ByteArray) (t : Int) (h : ByteArray) (n : Int) : lineOf k (entD s t h n) = (lineB ⟨k.toArray⟩ s t h n).data.toList := by
  cases s
  cases h
  rfl
def keysOf (D : DataW Unit) : List (List UInt8) := (strKeys D).mergeSort (fun x y => decide (x ≤ y))
def textL (D : DataW Unit) (ks : List (List UInt8)) : List UInt8 := ks.flatMap fun k => lineOf k (D.atKey (.string k) noU)
def textOf (D : DataW Unit) : ByteArray := ⟨(textL D (keysOf D)).toArray⟩
theorem textL_snoc (D : DataW Unit) (ks : List (List UInt8)) (k : List UInt8) : textL D (ks ++ [k]) = textL D ks ++ lineOf k (D.atKey (.string k) noU) := by
  unfold textL
  rw [List.flatMap_append]
  simp
theorem textL_take (D : DataW Unit) (ks : List (List UInt8)) (i : Nat) : (textL D (ks.take i)).length ≤ (textL D ks).length := by
  conv => rhs; rw [← List.take_append_drop i ks]
  unfold textL
  rw [List.flatMap_append, List.length_append]
  omega
/-- What the walk asks of a user: bounds. -/
def UserOk (D : DataW Unit) (k : List UInt8) : Prop := k.length ≤ 16 ∧ ∀ s t h n, D.atKey (.string k) noU = entD s t h n → s.size ≤ 16 ∧ h.size ≤ 64 ∧ 0 ≤ t ∧ t ≤ 100 ∧ 1 ≤ n ∧ n ≤ 2147483647
theorem itoa_len {n : Int} (h0 : 0 ≤ n) (h1 : n ≤ 2147483647) : (⟨(Lib.itoa n).toArray⟩ : ByteArray).size ≤ 21 := Lib.itoa_length_le n (by omega) (by omega)
theorem gpow : Tryz.prog.globalNamed "internal/strconv.uint64pow10" = some 1 := by kernel_rfl
theorem itoa_any (x : Int) (w : World) (h0 : 0 ≤ x) (h1 : x ≤ 2147483647) (ht : Lib.TabIs Tryz.prog w "internal/strconv.uint64pow10" .u64 Lib.pow10Tab) :
    Calls Tryz.prog 32 #[.int .i64 x] w fun e w' => e = .returned (.string ⟨(Lib.itoa x).toArray⟩) ∧ Below w.heap.size w w' := by
  refine (Tryz.strconv_Itoa x (by omega) (by omega) w ht).mono ?_
  rintro e w' ⟨rfl, k, os, rfl⟩
  exact ⟨rfl, ⟨rfl, rfl, rfl, by simp [grow], fun i hi => by
    show ((w.drewN k).heap ++ os)[i]? = _
    rw [Array.getElem?_append_left (by show i < w.heap.size; omega)]
    rfl⟩⟩
theorem ownsRowF_keep {w w' : World} {B : Nat} {v : Value} {n : Nat} {xs : List Value} (h : w.ownsRowF B 5 1 v n xs) (hb : Below w.heap.size w w') : w'.ownsRowF B 5 1 v n xs := by
  obtain ⟨h0, h1 | ⟨g, cap, cur, fz, e1, e2, e3, r⟩⟩ := h
  · exact ⟨h0, .inl h1⟩
  · exact ⟨h0, .inr ⟨g, cap, cur, fz, e1, e2, (hb.block g (Array.getElem?_eq_some_iff.1 e3).1).trans e3, r⟩⟩
/-- A builder beside which new blocks are laid. -/
theorem bld_keep {w w' : World} {B b : Nat} {p : Value} {bs : List Value} (h : Lib.BuilderAtF 82 5 B b p bs w) (hb : Below w.heap.size w w') : Lib.BuilderAtF 82 5 B b p bs w' := by
  obtain ⟨h0, v, h1, h2, h3⟩ := h
  exact ⟨h0, v, (hb.block b (Array.getElem?_eq_some_iff.1 h1).1).trans h1, ownsRowF_keep h2 hb, h3⟩
theorem isbld_keep {w w' : World} {B b : Nat} {bs : List Value} (h : Lib.IsBuilderF 82 5 B b bs w) (hb : Below w.heap.size w w') : Lib.IsBuilderF 82 5 B b bs w' :=
  h.elim (fun x => .inl (bld_keep x hb)) (fun x => .inr (bld_keep x hb))
theorem kept_below {b : Nat} {w w' : World} (h : Below w.heap.size w w') : Lib.OthersKept 5 (some b) w w' := fun k o hk _ _ => (h.block k (Array.getElem?_eq_some_iff.1 hk).1).trans hk
/-- The keys of a book, rising: what comes back. -/
theorem sorted_keys (mu nu : Nat) (Du : DataW Unit) (w : World) (hown : w.ownsMap Tryz.prog 9 readU mu nu Du) (hmax : Maps.size Du ≤ 4000000) :
    Calls Tryz.prog 29 #[.func (.func 49) #[] #[.pointer (some ⟨w.heap.size, 0, none⟩)]] (w.alloc (.cells #[.map (some mu)] 44)) fun e w' => ∃ v, e = .returned v ∧ w'.ownsRow (w.heap.size + 1) 9 1 v (keysOf Du).length ((keysOf Du).map encStr) ∧ Below (w.alloc (.cells #[.map (some mu)] 44)).heap.size (w.alloc (.cells #[.map (some mu)] 44)) w' := by
  refine ((callsIn_wide (n := 5)).1 (Tryz.slices_Sorted_keys_29_30 mu nu Du readU w hown (by unfold maxLen; omega) (by omega))).mono ?_
  rintro e w' ⟨v, ss, rfl, hp, hrow, _, hb⟩
  refine ⟨v, rfl, ?_, hb⟩
  have h1 : ss.mergeSort (fun x y => decide (x ≤ y)) = keysOf Du := by
    unfold keysOf
    exact mergeSort_of_perm hp
  rw [h1] at hrow
  have hl : ss.length = (keysOf Du).length := by rw [← h1, List.length_mergeSort]
  rw [hl] at hrow
  simpa using hrow
end Go.Proofs.YtkgbldkjpohinaaGreatDoor
