/- The walk of PassChanges, the wrong old text; the law. -/
import Derived.Test.YtkgbldkjpohinaaDoorChanges
namespace Go.Proofs.YtkgbldkjpohinaaDoor
open Go.RowKit Go.Maps Go.Sort
set_option linter.unusedVariables false
theorem del_one (d : DataW Unit) : ((DataW.map [] : DataW Unit).put (.string annN.data.toList) d).del (.string annN.data.toList) = .map [] := by rfl
set_option maxRecDepth 100000 in
set_option maxHeartbeats 8000000 in
theorem changes_wrong (a b : ByteArray) (w : World) (ha : a.size ≤ 64) (hb : b.size ≤ 64) (h : Sep a b) (htab : Lib.TabIs Tryd.prog w "internal/strconv.uint64pow10" .u64 Lib.pow10Tab) :
    Calls Tryd.prog 3 #[.string a, .string b, .bool false] w fun e w' => e = .returned (.bool true) ∧ Below w.heap.size w w' := by
  have d1 : decide ((a.size : Int) > 64) = false := by simp; omega
  have d2 : decide ((b.size : Int) > 64) = false := by simp; omega
  have y0 : ¬ (9223372036854775807 < a.size + 1) := by omega
  have l63 := h.l63
  have ml : annN.size ≤ maxLen := by unfold maxLen; decide
  have RX := fun W => Lib.hid (refhash_any ⟨#[115]⟩ a 1 W (by show 1 + a.size ≤ _; omega))
  have RY := fun W => Lib.hid (refhash_any ⟨#[115]⟩ b 1 W (by show 1 + b.size ≤ _; omega))
  have RZ := fun W => Lib.hid (refhash_any ⟨#[115]⟩ (a ++ ⟨#[63]⟩) 1 W (by rw [ByteArray.size_append]; show 1 + (a.size + 1) ≤ _; omega))
  have HXY := Lib.hid h.xy
  have HXZ := Lib.hid h.xz
  have q1 := beq_of_ne h.xy
  have q2 := beq_of_ne h.xz
  have q3 := beq_of_ne h.yz
  have sX := hashOf_size ⟨#[115]⟩ a 1
  have sY := hashOf_size ⟨#[115]⟩ b 1
  obtain ⟨X, hX⟩ : ∃ X, X = hashOf ⟨#[115]⟩ a 1 := ⟨_, rfl⟩
  obtain ⟨Y, hY⟩ : ∃ Y, Y = hashOf ⟨#[115]⟩ b 1 := ⟨_, rfl⟩
  obtain ⟨Z, hZ⟩ : ∃ Z, Z = hashOf ⟨#[115]⟩ (a ++ ⟨#[63]⟩) 1 := ⟨_, rfl⟩
  rw [← hX, ← hY] at q1
  rw [← hX, ← hZ] at q2
  rw [← hY, ← hZ] at q3
  rw [← hX] at sX
  rw [← hY] at sY
  simp only [← hX] at RX
  simp only [← hY] at RY
  simp only [← hZ] at RZ
  have HX := Lib.hid hX
  have HY := Lib.hid hY
  have HZ := Lib.hid hZ
  have HYX : Hid (Y ≠ X) := by have := HXY.out; rw [← hX, ← hY] at this; exact this.symm
  have HZX : Hid (Z ≠ X) := by have := HXZ.out; rw [← hX, ← hZ] at this; exact this.symm
  have HT := Lib.hid htab
  have AA : Hid ((a ++ ⟨#[63]⟩ : ByteArray).size ≤ 64) := by show ByteArray.size _ ≤ 64; rw [ByteArray.size_append]; show a.size + 1 ≤ _; omega
  have BB : Hid (hashOf ⟨#[115]⟩ (a ++ ⟨#[63]⟩ : ByteArray) 1 ≠ X) := by show hashOf _ _ _ ≠ X; rw [← hZ]; exact HZX.out
  clear hX hY hZ HXY HXZ h htab
  have t1 : ¬ (9223372036854775807 < 8 + X.size) := by omega
  have t2 : ¬ (9223372036854775807 < 8 + X.size + 3) := by omega
  obtain ⟨G0⟩ : Nonempty Nat := ⟨0⟩
  go_enter Tryd.func3, Tryd.ntmps3
  go_wp2_with (first
    | (go_at_call 6; refine (st_new 3 10 _ (by omega) (by omega) (by omega) (by omega)).mono ?_; rintro e w1 ⟨bk, mu, mf, rfl, h1⟩)
    | (go_at_call 7; refine (st_add ⟨#[97, 110, 110]⟩ ⟨#[115]⟩ a 1 9 h1 (by omega) ann_low (by decide) (by decide) s_low (by decide) (by decide) ha (by omega) (by omega) (by omega) (by omega)).mono ?_; rintro e w2 ⟨rfl, h2'⟩; rw [(one_user _ _ _ _ _).2, ← HX.out] at h2'; rw [(one_user _ ⟨#[115]⟩ a 1 9).1]; have h2 : Hid (BookSt w w2 bk mu mf 3 10 1 0 (annB X) (.map [])) := h2'; clear h2')
    | (go_at_call_of 8 (Value.string a); refine (RX _).out.mono ?_; rintro e w3 ⟨rfl, b3⟩; have h3 := Lib.hid (h2.out.keep b3); clear b3)
    | (go_at_call_of 8 (Value.string b); refine (RY _).out.mono ?_; rintro e w4 ⟨rfl, b4⟩; have h4 := Lib.hid (h3.out.keep b4); clear b4)
    | (go_at_call 8; refine (RZ _).out.mono ?_; rintro e w5 ⟨rfl, b5⟩; have h5 := Lib.hid (h4.out.keep b5); clear b5)
    | (go_at_call 9; refine (text_one h9.out sX HT.out).mono ?_; rintro e w10 ⟨rfl, b10⟩; have h10 := Lib.hid (h9.out.keep b10); clear b10)
    | (go_at_call 9; refine (text_one h5.out sX HT.out).mono ?_; rintro e w6 ⟨rfl, b6⟩; have h6 := Lib.hid (h5.out.keep b6); clear b6)
    | (go_at_call 10; refine (change_wrong annN _ b 5 ⟨#[115]⟩ X 1 9 0 0 h6.out ml AA.out hb (by omega) (annB_has _) (annB_at _) (at_none _ _) (by decide) BB.out (by omega) (by omega) (by omega)).mono ?_; rintro e w7 ⟨rfl, h7'⟩; have h7 := Lib.hid h7'; clear h7')
    | (go_at_call_of 11 (Value.string a); refine (st_right annN a 6 ⟨#[115]⟩ X 1 9 1 5 h7.out ml ha (by omega) (annB_has _) (annB_at _) (at_one _ _ _) (by decide) HX.out.symm (by omega)).mono ?_; rintro e w8 ⟨rfl, h8'⟩; rw [del_one] at h8'; have h8 := Lib.hid h8'; clear h8')
    | (go_at_call_of 11 (Value.string b); refine (st_wrong annN b 6 ⟨#[115]⟩ X 1 9 0 0 h8.out ml hb (by omega) (annB_has _) (annB_at _) (at_none _ _) (by decide) (by rw [← HY.out]; exact HYX.out) (by omega) (by omega) (by omega)).mono ?_; rintro e w9 ⟨rfl, h9'⟩; have h9 := Lib.hid h9'; clear h9')
    | (go_at_call 5; refine (awake15_any _).mono ?_; rintro e w11 ⟨rfl, b11⟩))
  go_ret
  exact ⟨rfl, h10.out.below.trans (b11.mono h10.out.below.size)⟩
/-- THE LAW's WALK. -/
theorem changes_any (a b : ByteArray) (r : Bool) (w : World) (ha : a.size ≤ maxLen) (hb : b.size ≤ maxLen) (htab : Lib.TabIs Tryd.prog w "internal/strconv.uint64pow10" .u64 Lib.pow10Tab) :
    Calls Tryd.prog 3 #[.string a, .string b, .bool r] w fun e w' => e = .returned (.bool true) ∧ Below w.heap.size w w' := by
  by_cases h : 64 < a.size ∨ 64 < b.size
  · exact changes_long a b r w h ha hb
  · by_cases hs : Sep a b
    · cases r
      · exact changes_wrong a b w (by omega) (by omega) hs htab
      · exact changes_right a b w (by omega) (by omega) hs htab
    · exact changes_same a b r w (by omega) (by omega) hs
end Go.Proofs.YtkgbldkjpohinaaDoor
