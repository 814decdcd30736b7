/- The reference's book: New, Add. -/
import Derived.Test.YtkgbldkjpohinaaGreatDoorMRefA
import Derived.Test.YtkgbldkjpohinaaGreatDoorMSha
namespace Go.Proofs.YtkgbldkjpohinaaGreatDoor
open Go.RowKit Go.Maps
set_option linter.unusedVariables false
set_option maxRecDepth 100000 in
theorem r_new (most wait : Int) (w : World) (h0 : 1 ≤ most) (h1 : most ≤ 9) (h2 : 1 ≤ wait) (h3 : wait ≤ 1000000) :
    Calls Tryz.prog 5 #[.int .i64 most, .int .i64 wait] w fun e w' => ∃ p : Nat, e = .returned (.tuple #[.pointer (some ⟨p, 0, none⟩), .int .i64 0]) ∧ RefSt w.heap.size w' p most wait [] [] ∧ Below w.heap.size w w' := by
  have d1 : decide (most < 1) = false := by simp; omega
  have d2 : decide (most > 9) = false := by simp; omega
  have d3 : decide (wait < 1) = false := by simp; omega
  have d4 : decide (wait > 1000000) = false := by simp; omega
  go_enter Tryz.func5, Tryz.ntmps5
  go_wp2
  go_ret2
  exact ⟨_, rfl, ⟨⟨_, _, heap_alloc_new _ _, World.ownsRow_nil _ _ _ _, World.ownsRow_nil _ _ _ _⟩, Nat.le_refl _⟩, (Below.refl _ _).alloc (Nat.le_refl _) _⟩
set_option maxRecDepth 100000 in
theorem r_new_arg (most wait : Int) (w : World) (h : most < 1 ∨ most > 9 ∨ wait < 1 ∨ wait > 1000000) :
    Calls Tryz.prog 5 #[.int .i64 most, .int .i64 wait] w fun e w' => e = .returned (.tuple #[.pointer none, .int .i64 1]) ∧ w' = w := by
  have hc : most < 1 ∨ (¬ most < 1 ∧ most > 9) ∨ (¬ most < 1 ∧ ¬ most > 9 ∧ wait < 1) ∨ (¬ most < 1 ∧ ¬ most > 9 ∧ ¬ wait < 1 ∧ wait > 1000000) := by omega
  clear h
  rcases hc with a | ⟨a, b⟩ | ⟨a, b, c⟩ | ⟨a, b, c, d⟩
  · have d1 : decide (most < 1) = true := decide_eq_true a
    clear a
    go_enter Tryz.func5, Tryz.ntmps5
    go_wp2
    go_ret2
    exact ⟨rfl, rfl⟩
  · have d1 : decide (most < 1) = false := decide_eq_false a
    have d2 : decide (most > 9) = true := decide_eq_true b
    clear a b
    go_enter Tryz.func5, Tryz.ntmps5
    go_wp2
    go_ret2
    exact ⟨rfl, rfl⟩
  · have d1 : decide (most < 1) = false := decide_eq_false a
    have d2 : decide (most > 9) = false := decide_eq_false b
    have d3 : decide (wait < 1) = true := decide_eq_true c
    clear a b c
    go_enter Tryz.func5, Tryz.ntmps5
    go_wp2
    go_ret2
    exact ⟨rfl, rfl⟩
  · have d1 : decide (most < 1) = false := decide_eq_false a
    have d2 : decide (most > 9) = false := decide_eq_false b
    have d3 : decide (wait < 1) = false := decide_eq_false c
    have d4 : decide (wait > 1000000) = true := decide_eq_true d
    clear a b c d
    go_enter Tryz.func5, Tryz.ntmps5
    go_wp2
    go_ret2
    exact ⟨rfl, rfl⟩
/-- What Add answers and what it leaves. -/
noncomputable def addR (us : List RU) (name salt text : ByteArray) (times tag : Int) : Int × List RU :=
  if mayB name salt times tag = false ∨ 64 < text.size then (1, us)
  else if (findU us name).isSome then (64, us)
  else if 9 ≤ us.length then (65, us)
  else (0, putL ⟨name, salt, hashOf salt text times, times, tag⟩ us)
set_option maxRecDepth 100000 in
set_option maxHeartbeats 4000000 in
theorem r_add {B p : Nat} {w : World} {most wait : Int} {us : List RU} {fs : List RF} (h : RefSt B w p most wait us fs) (name salt text : ByteArray) (times tag : Int) (hB : B ≤ w.heap.size) (hl : us.length < 1000) (hn : name.size ≤ maxLen) (hs : salt.size ≤ maxLen) :
    Calls Tryz.prog 8 #[.pointer (some ⟨p, 0, none⟩), .string name, .string salt, .string text, .int .i64 times, .int .i64 tag] w fun e w' => e = .returned (.int .i64 (addR us name salt text times tag).1) ∧ RefSt B w' p most wait (addR us name salt text times tag).2 fs ∧ Fr RefM w w' ∧ Below B w w' := by
  obtain ⟨r, hr⟩ : ∃ r, r = addR us name salt text times tag := ⟨_, rfl⟩
  rw [← hr]
  have HR := Lib.hid hr
  have H := Lib.hid h
  have HW1 := Lib.hid (r_word name false w hn)
  have HW2 := Lib.hid (r_word salt true w hs)
  have HF := Lib.hid (r_find h name (by omega))
  obtain ⟨vu, vf, h1, h2, h3⟩ := h.at_
  obtain ⟨ao, cap, rfl, _⟩ := ownU_shape h2
  have c2 : w.cell? ⟨p, 2, none⟩ = some (.slice ao us.length cap) := by rw [cell_of_row w p 2 _ 51 (0, 0) h1]; rfl
  clear hr h h1 h2 h3
  obtain ⟨b1, hb1⟩ : ∃ b, b = decide (LettersP name false) := ⟨_, rfl⟩
  obtain ⟨b2, hb2⟩ : ∃ b, b = decide (LettersP salt true) := ⟨_, rfl⟩
  rw [← hb1] at HW1
  rw [← hb2] at HW2
  obtain ⟨b3, hb3⟩ : ∃ b, b = decide ((text.size : Int) > 64) := ⟨_, rfl⟩
  obtain ⟨b4, hb4⟩ : ∃ b, b = decide (times < 0) := ⟨_, rfl⟩
  obtain ⟨b5, hb5⟩ : ∃ b, b = decide (times > 100) := ⟨_, rfl⟩
  obtain ⟨b6, hb6⟩ : ∃ b, b = decide (tag < 1) := ⟨_, rfl⟩
  obtain ⟨b7, hb7⟩ : ∃ b, b = decide (tag > 2147483647) := ⟨_, rfl⟩
  have hbad : (b1 = false ∨ b2 = false ∨ b3 = true ∨ b4 = true ∨ b5 = true ∨ b6 = true ∨ b7 = true) → r = (1, us) := by
    intro hx
    rw [HR.out]
    unfold addR
    rw [if_pos ?_]
    rcases hx with h | h | h | h | h | h | h
    · left; unfold mayB; rw [← hb1, h]; rfl
    · left; unfold mayB; rw [← hb2, h]; simp
    · right; rw [hb3] at h; have := of_decide_eq_true h; omega
    · left; unfold mayB; rw [hb4] at h; have := of_decide_eq_true h; simp; omega
    · left; unfold mayB; rw [hb5] at h; have := of_decide_eq_true h; simp; omega
    · left; unfold mayB; rw [hb6] at h; have := of_decide_eq_true h; simp; omega
    · left; unfold mayB; rw [hb7] at h; have := of_decide_eq_true h; simp; omega
  have hgood : ¬ (b1 = false ∨ b2 = false ∨ b3 = true ∨ b4 = true ∨ b5 = true ∨ b6 = true ∨ b7 = true) → mayB name salt times tag = true ∧ text.size ≤ 64 := by
    intro hx
    have f1 : b1 = true := by cases b1; (exact absurd (.inl rfl) hx); rfl
    have f2 : b2 = true := by cases b2; (exact absurd (.inr (.inl rfl)) hx); rfl
    have f3 : ¬ (text.size : Int) > 64 := fun e => hx (.inr (.inr (.inl (by rw [hb3]; exact decide_eq_true e))))
    have f4 : ¬ times < 0 := fun e => hx (.inr (.inr (.inr (.inl (by rw [hb4]; exact decide_eq_true e)))))
    have f5 : ¬ times > 100 := fun e => hx (.inr (.inr (.inr (.inr (.inl (by rw [hb5]; exact decide_eq_true e))))))
    have f6 : ¬ tag < 1 := fun e => hx (.inr (.inr (.inr (.inr (.inr (.inl (by rw [hb6]; exact decide_eq_true e)))))))
    have f7 : ¬ tag > 2147483647 := fun e => hx (.inr (.inr (.inr (.inr (.inr (.inr (by rw [hb7]; exact decide_eq_true e)))))))
    refine ⟨?_, by omega⟩
    unfold mayB
    rw [← hb1, ← hb2, f1, f2]
    simp
    omega
  have HBAD := Lib.hid hbad
  have HGOOD := Lib.hid hgood
  clear hbad hgood
  have e3 := hb3.symm
  have e4 := hb4.symm
  have e5 := hb5.symm
  have e6 := hb6.symm
  have e7 := hb7.symm
  clear hb1 hb2 hb3 hb4 hb5 hb6 hb7
  by_cases hbd : b1 = false ∨ b2 = false ∨ b3 = true ∨ b4 = true ∨ b5 = true ∨ b6 = true ∨ b7 = true
  · have hr1 := HBAD.out hbd
    have hx : b1 = false ∨ (b1 = true ∧ b2 = false) ∨ (b1 = true ∧ b2 = true ∧ b3 = true) ∨ (b1 = true ∧ b2 = true ∧ b3 = false ∧ b4 = true) ∨ (b1 = true ∧ b2 = true ∧ b3 = false ∧ b4 = false ∧ b5 = true) ∨ (b1 = true ∧ b2 = true ∧ b3 = false ∧ b4 = false ∧ b5 = false ∧ b6 = true) ∨ (b1 = true ∧ b2 = true ∧ b3 = false ∧ b4 = false ∧ b5 = false ∧ b6 = false ∧ b7 = true) := by
      revert hbd; cases b1 <;> cases b2 <;> cases b3 <;> cases b4 <;> cases b5 <;> cases b6 <;> cases b7 <;> simp
    subst hr1
    clear hbd HBAD HGOOD HR
    rcases hx with rfl | ⟨rfl, rfl⟩ | ⟨rfl, rfl, rfl⟩ | ⟨rfl, rfl, rfl, rfl⟩ | ⟨rfl, rfl, rfl, rfl, rfl⟩ | ⟨rfl, rfl, rfl, rfl, rfl, rfl⟩ | ⟨rfl, rfl, rfl, rfl, rfl, rfl, rfl⟩
    all_goals
      go_enter Tryz.func8, Tryz.ntmps8
      go_wp2_with (first
        | (go_at_call_of 18 (Value.string name); refine HW1.out.mono ?_; rintro e w1 ⟨rfl, rfl⟩)
        | (go_at_call_of 18 (Value.string salt); refine HW2.out.mono ?_; rintro e w1 ⟨rfl, rfl⟩))
      go_ret
      exact ⟨rfl, H.out, Fr.refl _ _, Below.refl _ _⟩
  · obtain ⟨hm, ht⟩ := HGOOD.out hbd
    have hx : b1 = true ∧ b2 = true ∧ b3 = false ∧ b4 = false ∧ b5 = false ∧ b6 = false ∧ b7 = false := by
      revert hbd; cases b1 <;> cases b2 <;> cases b3 <;> cases b4 <;> cases b5 <;> cases b6 <;> cases b7 <;> simp
    obtain ⟨rfl, rfl, rfl, rfl, rfl, rfl, rfl⟩ := hx
    have hr2 : r = if (findU us name).isSome then (64, us) else if 9 ≤ us.length then (65, us) else (0, putL ⟨name, salt, hashOf salt text times, times, tag⟩ us) := by
      rw [HR.out]; unfold addR; rw [if_neg (by rw [hm]; simp; omega)]
    obtain ⟨_, _, _, hs16, _⟩ := mayB_true hm
    clear hbd HBAD HGOOD HR hm
    rcases hfu : findU us name with _ | u
    · have hmiss : ∀ r : Int, FindAt RU.name us name r → r = -1 := fun r hr => by
        rcases hr with ⟨i, u, _, _, _, hf, _⟩ | ⟨h1, _⟩
        · unfold findU at hfu; rw [hfu] at hf; cases hf
        · exact h1
      have HM := Lib.hid hmiss
      rw [hfu] at hr2
      by_cases h9 : 9 ≤ us.length
      · have hr3 : r = (65, us) := by rw [hr2]; simp [h9]
        have d9 : decide ((us.length : Int) ≥ 9) = true := decide_eq_true (by omega)
        subst hr3
        clear hr2 hfu hmiss h9
        go_enter Tryz.func8, Tryz.ntmps8
        go_wp2_with (first
          | (go_at_call_of 18 (Value.string name); refine HW1.out.mono ?_; rintro e w1 ⟨rfl, rfl⟩)
          | (go_at_call_of 18 (Value.string salt); refine HW2.out.mono ?_; rintro e w1 ⟨rfl, rfl⟩)
          | (go_at_call 19; refine HF.out.mono ?_; rintro e w1 ⟨rr, rfl, hrr, rfl⟩; obtain rfl := HM.out rr hrr; clear hrr))
        go_ret
        exact ⟨rfl, H.out, Fr.refl _ _, Below.refl _ _⟩
      · have hr3 : r = (0, putL ⟨name, salt, hashOf salt text times, times, tag⟩ us) := by rw [hr2]; simp [h9]
        have d9 : decide ((us.length : Int) ≥ 9) = false := decide_eq_false (by omega)
        subst hr3
        have HST := Lib.hid (fun w' : World => refstretch_any salt text times w' (by omega))
        have HH : Hid (hashOf salt text times = strOfNums (hexL (stretchL (bytesOf salt) (bytesOf text) (min (max times 0) 1000).toNat))) := rfl
        obtain ⟨hh, hhe⟩ : ∃ hh, hh = hashOf salt text times := ⟨_, rfl⟩
        have HHE := Lib.hid hhe
        have HST2 : Hid (∀ w' : World, Calls Tryz.prog 21 #[.string salt, .string text, .int .i64 times] w' fun e w'' => e = .returned (.string hh) ∧ Below w'.heap.size w' w'') := fun w' => by rw [HHE.out]; exact HST.out w'
        rw [← hhe]
        clear hr2 hfu hmiss h9 hhe
        go_enter Tryz.func8, Tryz.ntmps8
        go_wp2_with (first
          | (go_at_call_of 18 (Value.string name); refine HW1.out.mono ?_; rintro e w1 ⟨rfl, rfl⟩)
          | (go_at_call_of 18 (Value.string salt); refine HW2.out.mono ?_; rintro e w1 ⟨rfl, rfl⟩)
          | (go_at_call 19; refine HF.out.mono ?_; rintro e w1 ⟨rr, rfl, hrr, rfl⟩; obtain rfl := HM.out rr hrr; clear hrr)
          | (go_at_call 21; refine (HST2.out _).mono ?_; rintro e w2 ⟨rfl, b2⟩; have B2 := Lib.hid b2; clear b2)
          | (go_at_call 20; refine (r_put (H.out.keep B2.out) ⟨name, salt, hh, times, tag⟩ (by omega)).mono ?_; rintro e w3 ⟨⟨v, rfl⟩, m1, m2, m3⟩; have M1 := Lib.hid m1; have M2 := Lib.hid m2; have M3 := Lib.hid m3; clear m1 m2 m3))
        go_ret
        exact ⟨rfl, M1.out, (Fr.of_below B2.out).trans M2.out, (B2.out.mono hB).trans M3.out⟩
    · have hr3 : r = (64, us) := by rw [hr2, hfu]; rfl
      have hhit : ∀ r : Int, FindAt RU.name us name r → decide (r ≥ 0) = true := fun r hr => by
        rcases hr with ⟨i, u, h1, _, _, hf, _⟩ | ⟨h1, h2⟩
        · exact decide_eq_true (by omega)
        · unfold findU at hfu; rw [hfu] at h2; cases h2
      have HM := Lib.hid hhit
      subst hr3
      clear hr2 hfu hhit
      go_enter Tryz.func8, Tryz.ntmps8
      go_wp2_with (first
        | (go_at_call_of 18 (Value.string name); refine HW1.out.mono ?_; rintro e w1 ⟨rfl, rfl⟩)
        | (go_at_call_of 18 (Value.string salt); refine HW2.out.mono ?_; rintro e w1 ⟨rfl, rfl⟩)
        | (go_at_call 19; refine HF.out.mono ?_; rintro e w1 ⟨rr, rfl, hrr, rfl⟩; have dr := HM.out rr hrr; clear hrr))
      go_ret
      exact ⟨rfl, H.out, Fr.refl _ _, Below.refl _ _⟩
end Go.Proofs.YtkgbldkjpohinaaGreatDoor
