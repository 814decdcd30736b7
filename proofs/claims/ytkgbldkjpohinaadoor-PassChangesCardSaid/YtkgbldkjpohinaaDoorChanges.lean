/- The walk of PassChanges. -/
import Derived.Test.YtkgbldkjpohinaaDoorChange
import Derived.Test.YtkgbldkjpohinaaDoorText
import Derived.Test.YtkgbldkjpohinaaDoorRefSha
namespace Go.Proofs.YtkgbldkjpohinaaDoor
open Go.RowKit Go.Maps Go.Sort
set_option linter.unusedVariables false
def annN : ByteArray := ⟨#[97, 110, 110]⟩
def annB (x : ByteArray) : DataW Unit := (DataW.map [] : DataW Unit).put (.string annN.data.toList) (entD ⟨#[115]⟩ 1 x 9)
theorem hashOf_size (p t : ByteArray) (k : Int) : (hashOf p t k).size = 64 := by
  unfold hashOf
  rw [strOfNums_size, hexL_length, stretchL_length]
theorem annB_put (x y : ByteArray) : (annB x).put (.string annN.data.toList) (entD ⟨#[115]⟩ 1 y 9) = annB y := by rfl
theorem annB_keys (x : ByteArray) : keysOf (annB x) = [annN.data.toList] := by
  have e : strKeys (annB x) = [annN.data.toList] := by rfl
  unfold keysOf
  rw [e]
  simp
theorem annB_at (x : ByteArray) : (annB x).atKey (.string annN.data.toList) noU = entD ⟨#[115]⟩ 1 x 9 := at_one _ _ _
theorem annB_has (x : ByteArray) : Maps.has (annB x) (.string annN.data.toList) = true := has_one _ _
theorem itoa_one : (Lib.itoa 1) = [49] := by decide +kernel
theorem itoa_nine : (Lib.itoa 9) = [57] := by decide +kernel
theorem ann_line (x : ByteArray) : lineB annN ⟨#[115]⟩ 1 x 9 = ⟨#[97, 110, 110, 58, 115, 58, 49, 58]⟩ ++ x ++ ⟨#[58, 57, 10]⟩ := by
  unfold lineB annN
  rw [itoa_one, itoa_nine]
  rw [ByteArray.append_assoc, ByteArray.append_assoc]
  rfl
theorem text_one {w0 w : World} {b mu mf : Nat} {tries wait : Int} {nu nf : Nat} {Df : DataW Unit} {x : ByteArray} (h : BookSt w0 w b mu mf tries wait nu nf (annB x) Df) (hx : x.size = 64) (htab : Lib.TabIs Tryd.prog w0 "internal/strconv.uint64pow10" .u64 Lib.pow10Tab) :
    Calls Tryd.prog 9 #[.pointer (some ⟨b, 0, none⟩)] w fun e w' => e = .returned (.string (⟨#[97, 110, 110, 58, 115, 58, 49, 58]⟩ ++ x ++ ⟨#[58, 57, 10]⟩)) ∧ Below w.heap.size w w' := by
  have ht : textL (annB x) (keysOf (annB x)) = (⟨#[97, 110, 110, 58, 115, 58, 49, 58]⟩ ++ x ++ ⟨#[58, 57, 10]⟩ : ByteArray).data.toList := by
    rw [annB_keys]
    unfold textL
    simp only [List.flatMap_cons, List.flatMap_nil, List.append_nil]
    rw [annB_at, lineOf_ent, ← ann_line]
  have hs : (⟨#[97, 110, 110, 58, 115, 58, 49, 58]⟩ ++ x ++ ⟨#[58, 57, 10]⟩ : ByteArray).size = 8 + x.size + 3 := by
    rw [ByteArray.size_append, ByteArray.size_append]; rfl
  refine (text_any b mu mf nu (annB x) tries wait w h.at_ h.hu (by show 1 ≤ 1000000; omega) (by rw [annB_keys]; simp) (fun k hk => ?_) ?_ (Joins.tab_stays gpow htab h.below (Nat.le_refl _))).mono ?_
  · rw [annB_keys] at hk
    rw [List.mem_singleton.1 hk]
    refine ⟨by decide, fun s t h n e => ?_⟩
    rw [annB_at] at e
    obtain ⟨rfl, rfl, rfl, rfl⟩ := entD_inj e
    exact ⟨by decide, by omega, by omega, by omega, by omega, by omega⟩
  · rw [ht]
    have hl : ∀ s : ByteArray, s.data.toList.length = s.size := fun s => by simp
    rw [hl]
    omega
  · rintro e w' ⟨rfl, hb⟩
    refine ⟨?_, hb⟩
    unfold textOf
    rw [ht]
theorem refhash_any (salt pass : ByteArray) (times : Int) (w : World) (hs : salt.size + pass.size ≤ 1073741824) :
    Calls Tryd.prog 8 #[.string salt, .string pass, .int .i64 times] w fun e w' => e = .returned (.string (hashOf salt pass times)) ∧ Below w.heap.size w w' := refstretch_any salt pass times w hs
theorem beq_of_ne {a b : ByteArray} (h : a ≠ b) : (a.toList == b.toList) = false := beq_false_of h
theorem beq_of_eq {a b : ByteArray} (h : a = b) : (a.toList == b.toList) = true := by rw [h]; simp
set_option maxRecDepth 100000 in
set_option maxHeartbeats 8000000 in
/-- Where texts are too long. -/
theorem changes_long (a b : ByteArray) (r : Bool) (w : World) (h : 64 < a.size ∨ 64 < b.size) (ha : a.size ≤ maxLen) (hb : b.size ≤ maxLen) :
    Calls Tryd.prog 3 #[.string a, .string b, .bool r] w fun e w' => e = .returned (.bool true) ∧ Below w.heap.size w w' := by
  by_cases h1 : 64 < a.size
  · have d1 : decide ((a.size : Int) > 64) = true := by simp; omega
    go_enter Tryd.func3, Tryd.ntmps3
    go_wp2_with (go_at_call 5; refine (awake15_any _).mono ?_; rintro e w1 ⟨rfl, b1⟩)
    go_ret
    exact ⟨rfl, b1⟩
  · have h2 : 64 < b.size := by omega
    have d1 : decide ((a.size : Int) > 64) = false := by simp; omega
    have d2 : decide ((b.size : Int) > 64) = true := by simp; omega
    go_enter Tryd.func3, Tryd.ntmps3
    go_wp2_with (go_at_call 5; refine (awake15_any _).mono ?_; rintro e w1 ⟨rfl, b1⟩)
    go_ret
    exact ⟨rfl, b1⟩
/-- What the walks of the other ways share. -/
structure Sep (a b : ByteArray) : Prop where
  xy : hashOf ⟨#[115]⟩ a 1 ≠ hashOf ⟨#[115]⟩ b 1
  xz : hashOf ⟨#[115]⟩ a 1 ≠ hashOf ⟨#[115]⟩ (a ++ ⟨#[63]⟩) 1
  yz : hashOf ⟨#[115]⟩ b 1 ≠ hashOf ⟨#[115]⟩ (a ++ ⟨#[63]⟩) 1
  l63 : a.size ≠ 64
set_option maxRecDepth 100000 in
set_option maxHeartbeats 8000000 in
theorem changes_same (a b : ByteArray) (r : Bool) (w : World) (ha : a.size ≤ 64) (hb : b.size ≤ 64) (h : ¬ Sep a b) :
    Calls Tryd.prog 3 #[.string a, .string b, .bool r] w fun e w' => e = .returned (.bool true) ∧ Below w.heap.size w w' := by
  have d1 : decide ((a.size : Int) > 64) = false := by simp; omega
  have d2 : decide ((b.size : Int) > 64) = false := by simp; omega
  have y0 : ¬ (9223372036854775807 < a.size + 1) := by omega
  have ml : annN.size ≤ maxLen := by unfold maxLen; decide
  have hcase : (hashOf ⟨#[115]⟩ a 1 = hashOf ⟨#[115]⟩ b 1) ∨ (hashOf ⟨#[115]⟩ a 1 ≠ hashOf ⟨#[115]⟩ b 1 ∧ hashOf ⟨#[115]⟩ a 1 = hashOf ⟨#[115]⟩ (a ++ ⟨#[63]⟩) 1) ∨ (hashOf ⟨#[115]⟩ a 1 ≠ hashOf ⟨#[115]⟩ b 1 ∧ hashOf ⟨#[115]⟩ a 1 ≠ hashOf ⟨#[115]⟩ (a ++ ⟨#[63]⟩) 1 ∧ hashOf ⟨#[115]⟩ b 1 = hashOf ⟨#[115]⟩ (a ++ ⟨#[63]⟩) 1) ∨ (hashOf ⟨#[115]⟩ a 1 ≠ hashOf ⟨#[115]⟩ b 1 ∧ hashOf ⟨#[115]⟩ a 1 ≠ hashOf ⟨#[115]⟩ (a ++ ⟨#[63]⟩) 1 ∧ hashOf ⟨#[115]⟩ b 1 ≠ hashOf ⟨#[115]⟩ (a ++ ⟨#[63]⟩) 1 ∧ a.size = 64) := by
    by_cases e1 : hashOf ⟨#[115]⟩ a 1 = hashOf ⟨#[115]⟩ b 1
    · exact .inl e1
    · by_cases e2 : hashOf ⟨#[115]⟩ a 1 = hashOf ⟨#[115]⟩ (a ++ ⟨#[63]⟩) 1
      · exact .inr (.inl ⟨e1, e2⟩)
      · by_cases e3 : hashOf ⟨#[115]⟩ b 1 = hashOf ⟨#[115]⟩ (a ++ ⟨#[63]⟩) 1
        · exact .inr (.inr (.inl ⟨e1, e2, e3⟩))
        · refine .inr (.inr (.inr ⟨e1, e2, e3, ?_⟩))
          by_cases e4 : a.size = 64
          · exact e4
          · exact absurd ⟨e1, e2, e3, e4⟩ h
  clear h
  have RX := fun W => Lib.hid (refhash_any ⟨#[115]⟩ a 1 W (by show 1 + a.size ≤ _; omega))
  have RY := fun W => Lib.hid (refhash_any ⟨#[115]⟩ b 1 W (by show 1 + b.size ≤ _; omega))
  have RZ := fun W => Lib.hid (refhash_any ⟨#[115]⟩ (a ++ ⟨#[63]⟩) 1 W (by rw [ByteArray.size_append]; show 1 + (a.size + 1) ≤ _; omega))
  obtain ⟨X, hX⟩ : ∃ X, X = hashOf ⟨#[115]⟩ a 1 := ⟨_, rfl⟩
  obtain ⟨Y, hY⟩ : ∃ Y, Y = hashOf ⟨#[115]⟩ b 1 := ⟨_, rfl⟩
  obtain ⟨Z, hZ⟩ : ∃ Z, Z = hashOf ⟨#[115]⟩ (a ++ ⟨#[63]⟩) 1 := ⟨_, rfl⟩
  rw [← hX, ← hY, ← hZ] at hcase
  simp only [← hX] at RX
  simp only [← hY] at RY
  simp only [← hZ] at RZ
  clear hX hY hZ
  have hall : ((X.toList == Y.toList) = true) ∨ ((X.toList == Y.toList) = false ∧ (X.toList == Z.toList) = true) ∨ ((X.toList == Y.toList) = false ∧ (X.toList == Z.toList) = false ∧ (Y.toList == Z.toList) = true) ∨ ((X.toList == Y.toList) = false ∧ (X.toList == Z.toList) = false ∧ (Y.toList == Z.toList) = false ∧ a.size = 64) := by
    rcases hcase with h | ⟨h1, h2⟩ | ⟨h1, h2, h3⟩ | ⟨h1, h2, h3, h4⟩
    · exact .inl (beq_of_eq h)
    · exact .inr (.inl ⟨beq_of_ne h1, beq_of_eq h2⟩)
    · exact .inr (.inr (.inl ⟨beq_of_ne h1, beq_of_ne h2, beq_of_eq h3⟩))
    · exact .inr (.inr (.inr ⟨beq_of_ne h1, beq_of_ne h2, beq_of_ne h3, h4⟩))
  clear hcase
  go_enter Tryd.func3, Tryd.ntmps3
  go_upto_region 7 with (first
    | (go_at_call 6; refine (st_new 3 10 _ (by omega) (by omega) (by omega) (by omega)).mono ?_; rintro e w1 ⟨bk, mu, mf, rfl, h1⟩)
    | (go_at_call 7; refine (st_add ⟨#[97, 110, 110]⟩ ⟨#[115]⟩ a 1 9 h1 (by omega) ann_low (by decide) (by decide) s_low (by decide) (by decide) ha (by omega) (by omega) (by omega) (by omega)).mono ?_; rintro e w2 ⟨rfl, h2⟩; rw [(one_user _ _ _ _ _).2] at h2; rw [(one_user _ ⟨#[115]⟩ a 1 9).1])
    | (go_at_call_of 8 (Value.string a); refine (RX _).out.mono ?_; rintro e w3 ⟨rfl, b3⟩)
    | (go_at_call_of 8 (Value.string b); refine (RY _).out.mono ?_; rintro e w4 ⟨rfl, b4⟩)
    | (go_at_call 8; refine (RZ _).out.mono ?_; rintro e w5 ⟨rfl, b5⟩))
  have hw2 := h2.below
  have hw5 : Below w.heap.size w w5 := ((hw2.trans (b3.mono hw2.size)).trans (b4.mono (by have := b3.size; have := hw2.size; omega))).trans (b5.mono (by have := b4.size; have := b3.size; have := hw2.size; omega))
  clear b3 b4 b5 hw2 h1 h2
  rcases hall with q1 | ⟨q1, q2⟩ | ⟨q1, q2, q3⟩ | ⟨q1, q2, q3, q4⟩
  all_goals
    go_wp2_with (go_at_call 5; refine (awake15_any _).mono ?_; rintro e w9 ⟨rfl, b9⟩)
    go_ret
    exact ⟨rfl, hw5.trans (b9.mono hw5.size)⟩
set_option maxRecDepth 100000 in
set_option maxHeartbeats 8000000 in
theorem changes_right (a b : ByteArray) (w : World) (ha : a.size ≤ 64) (hb : b.size ≤ 64) (h : Sep a b) (htab : Lib.TabIs Tryd.prog w "internal/strconv.uint64pow10" .u64 Lib.pow10Tab) :
    Calls Tryd.prog 3 #[.string a, .string b, .bool true] w fun e w' => e = .returned (.bool true) ∧ Below w.heap.size w w' := by
  have d1 : decide ((a.size : Int) > 64) = false := by simp; omega
  have d2 : decide ((b.size : Int) > 64) = false := by simp; omega
  have y0 : ¬ (9223372036854775807 < a.size + 1) := by omega
  have l63 := h.l63
  have ml : annN.size ≤ maxLen := by unfold maxLen; decide
  have RX := fun W => Lib.hid (refhash_any ⟨#[115]⟩ a 1 W (by show 1 + a.size ≤ _; omega))
  have RY := fun W => Lib.hid (refhash_any ⟨#[115]⟩ b 1 W (by show 1 + b.size ≤ _; omega))
  have RZ := fun W => Lib.hid (refhash_any ⟨#[115]⟩ (a ++ ⟨#[63]⟩) 1 W (by rw [ByteArray.size_append]; show 1 + (a.size + 1) ≤ _; omega))
  have HXY := Lib.hid h.xy
  have q1 := beq_of_ne h.xy
  have q2 := beq_of_ne h.xz
  have q3 := beq_of_ne h.yz
  have sX := hashOf_size ⟨#[115]⟩ a 1
  have sY := hashOf_size ⟨#[115]⟩ b 1
  obtain ⟨X, hX⟩ : ∃ X, X = hashOf ⟨#[115]⟩ a 1 := ⟨_, rfl⟩
  obtain ⟨Y, hY⟩ : ∃ Y, Y = hashOf ⟨#[115]⟩ b 1 := ⟨_, rfl⟩
  obtain ⟨Z, hZ⟩ : ∃ Z, Z = hashOf ⟨#[115]⟩ (a ++ ⟨#[63]⟩) 1 := ⟨_, rfl⟩
  rw [← hX, ← hY] at q1
  rw [← hX, ← hZ] at q2
  rw [← hY, ← hZ] at q3
  rw [← hX] at sX
  rw [← hY] at sY
  simp only [← hX] at RX
  simp only [← hY] at RY
  simp only [← hZ] at RZ
  have HX := Lib.hid hX
  have HY := Lib.hid hY
  have HXY' : Hid (X ≠ Y) := by have := HXY.out; rw [← hX, ← hY] at this; exact this
  have HT := Lib.hid htab
  clear hX hY hZ HXY h htab
  have t1 : ¬ (9223372036854775807 < 8 + Y.size) := by omega
  have t2 : ¬ (9223372036854775807 < 8 + Y.size + 3) := by omega
  obtain ⟨G0⟩ : Nonempty Nat := ⟨0⟩
  go_enter Tryd.func3, Tryd.ntmps3
  go_wp2_with (first
    | (go_at_call 6; refine (st_new 3 10 _ (by omega) (by omega) (by omega) (by omega)).mono ?_; rintro e w1 ⟨bk, mu, mf, rfl, h1⟩)
    | (go_at_call 7; refine (st_add ⟨#[97, 110, 110]⟩ ⟨#[115]⟩ a 1 9 h1 (by omega) ann_low (by decide) (by decide) s_low (by decide) (by decide) ha (by omega) (by omega) (by omega) (by omega)).mono ?_; rintro e w2 ⟨rfl, h2'⟩; rw [(one_user _ _ _ _ _).2, ← HX.out] at h2'; rw [(one_user _ ⟨#[115]⟩ a 1 9).1]; have h2 : Hid (BookSt w w2 bk mu mf 3 10 1 0 (annB X) (.map [])) := h2'; clear h2')
    | (go_at_call_of 8 (Value.string a); refine (RX _).out.mono ?_; rintro e w3 ⟨rfl, b3⟩; have h3 := Lib.hid (h2.out.keep b3); clear b3)
    | (go_at_call_of 8 (Value.string b); refine (RY _).out.mono ?_; rintro e w4 ⟨rfl, b4⟩; have h4 := Lib.hid (h3.out.keep b4); clear b4)
    | (go_at_call 8; refine (RZ _).out.mono ?_; rintro e w5 ⟨rfl, b5⟩; have h5 := Lib.hid (h4.out.keep b5); clear b5)
    | (go_at_call 9; refine (text_one h9.out sY HT.out).mono ?_; rintro e w10 ⟨rfl, b10⟩; have h10 := Lib.hid (h9.out.keep b10); clear b10)
    | (go_at_call 9; refine (text_one h5.out sX HT.out).mono ?_; rintro e w6 ⟨rfl, b6⟩; have h6 := Lib.hid (h5.out.keep b6); clear b6)
    | (go_at_call 10; refine (change_right annN a b 5 ⟨#[115]⟩ X 1 9 0 0 h6.out ml ha hb (by omega) (annB_has _) (annB_at _) (at_none _ _) (by decide) HX.out.symm (by omega) (by omega)).mono ?_; rintro e w7 ⟨rfl, h7'⟩; rw [← HY.out, annB_put, del_none] at h7'; have h7 := Lib.hid h7'; clear h7')
    | (go_at_call_of 11 (Value.string a); refine (st_wrong annN a 6 ⟨#[115]⟩ Y 1 9 0 0 h7.out ml ha (by omega) (annB_has _) (annB_at _) (at_none _ _) (by decide) (by rw [← HX.out]; exact HXY'.out) (by omega) (by omega) (by omega)).mono ?_; rintro e w8 ⟨rfl, h8'⟩; have h8 := Lib.hid h8'; clear h8')
    | (go_at_call_of 11 (Value.string b); refine (st_right annN b 6 ⟨#[115]⟩ Y 1 9 1 6 h8.out ml hb (by omega) (annB_has _) (annB_at _) (at_one _ _ _) (by decide) HY.out.symm (by omega)).mono ?_; rintro e w9 ⟨rfl, h9'⟩; have h9 := Lib.hid h9'; clear h9')
    | (go_at_call 5; refine (awake15_any _).mono ?_; rintro e w11 ⟨rfl, b11⟩))
  go_ret
  exact ⟨rfl, h10.out.below.trans (b11.mono h10.out.below.size)⟩
end Go.Proofs.YtkgbldkjpohinaaDoor
