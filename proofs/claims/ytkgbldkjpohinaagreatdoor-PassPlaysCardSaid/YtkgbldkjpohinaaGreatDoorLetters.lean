/- letters, may: of any text, any numbers. -/
import Derived.Test.YtkgbldkjpohinaaGreatDoorBookAwake
import Derived.Deep.Cut
namespace Go.Proofs.YtkgbldkjpohinaaGreatDoor
open Go.RowKit Go.Maps
set_option linter.unusedVariables false
def okB (d : Bool) (c : Nat) : Prop := (97 ≤ c ∧ c ≤ 122) ∨ (d = true ∧ 48 ≤ c ∧ c ≤ 57)
def LettersP (s : ByteArray) (d : Bool) : Prop := (∀ (i : Nat) (h : i < s.size), okB d (s[i]'h).toNat) ∧ 1 ≤ s.size ∧ s.size ≤ 16
open Classical in
noncomputable instance lettersDec (s : ByteArray) (d : Bool) : Decidable (LettersP s d) := Classical.propDecidable _
set_option maxRecDepth 100000 in
set_option maxHeartbeats 2000000 in
theorem letters_any (s : ByteArray) (d : Bool) (w : World) (hs : s.size ≤ maxLen) :
    Calls Tryz.prog 35 #[.string s, .bool d] w fun e w' => e = .returned (.bool (decide (LettersP s d))) ∧ Below w.heap.size w w' := by
  obtain ⟨res, hres⟩ : ∃ r, r = decide (LettersP s d) := ⟨_, rfl⟩
  rw [← hres]
  have HR := Lib.hid hres
  clear hres
  have hA : Hid (Below w.heap.size w (w.alloc (.stringIter s 0))) := (Below.refl _ _).alloc (Nat.le_refl _) _
  go_enter Tryz.func35, Tryz.ntmps35
  go_wp2
  go_loopw [6] (fun _ wr => ∃ pos, pos ≤ s.size ∧ wr = w.iter s pos ∧ ∀ (i : Nat) (h : i < s.size), i < pos → okB d (s[i]'h).toNat) (fun _ wr => s.size - wr.iterPos w.heap.size)
  case atStart => exact ⟨0, by omega, rfl, fun i h hi => by omega⟩
  case round =>
    obtain ⟨pos, hp, rfl, hal⟩ := hrel
    have HAL := Lib.hid hal
    clear hal
    by_cases hlt : pos < s.size
    · have hbad : ¬ okB d (s[pos]'hlt).toNat → res = false := fun h => by
        rw [HR.out]
        exact decide_eq_false (fun c => h (c.1 pos hlt))
      have hgood : okB d (s[pos]'hlt).toNat → ∀ (i : Nat) (h : i < s.size), i < pos + 1 → okB d (s[i]'h).toNat := fun h i hi hp1 => by
        rcases Nat.lt_or_ge i pos with h1 | h1
        · exact HAL.out i hi h1
        · obtain rfl : i = pos := by omega
          exact h
      have HBAD := Lib.hid hbad
      have HGOOD := Lib.hid hgood
      clear hbad hgood
      by_cases hasc : (s[pos]'hlt).toNat < 128
      · have hn := fun ty => run_next_ascii (P := Tryz.prog) w s pos ty hlt hasc
        obtain ⟨c, hc⟩ : ∃ c : Nat, c = (s[pos]'hlt).toNat := ⟨_, rfl⟩
        rw [← hc] at hasc HBAD HGOOD
        simp only [← hc] at hn
        clear hc
        by_cases h1 : c < 97
        · have d1 : decide ((c : Int) < 97) = true := by simp; omega
          cases d
          · have HF := Lib.hid (HBAD.out (by unfold okB; rintro (h | h); · omega
                                             · cases h.1))
            go_wp2
            go_ret
            exact ⟨by rw [HF.out]; rfl, (Below.refl _ _).alloc (Nat.le_refl _) _⟩
          · by_cases h3 : 48 ≤ c
            · have d3 : decide ((c : Int) ≥ 48) = true := by simp; omega
              by_cases h4 : c ≤ 57
              · have d4 : decide ((c : Int) ≤ 57) = true := by simp; omega
                go_wp2
                go_roundw
                case rel => exact ⟨pos + 1, by omega, rfl, HGOOD.out (.inr ⟨rfl, by omega, by omega⟩)⟩
                case measure => rw [World.iterPos_iter, World.iterPos_iter]; omega
              · have d4 : decide ((c : Int) ≤ 57) = false := by simp; omega
                have HF := Lib.hid (HBAD.out (by unfold okB; omega))
                go_wp2
                go_ret
                exact ⟨by rw [HF.out]; rfl, (Below.refl _ _).alloc (Nat.le_refl _) _⟩
            · have d3 : decide ((c : Int) ≥ 48) = false := by simp; omega
              have HF := Lib.hid (HBAD.out (by unfold okB; omega))
              go_wp2
              go_ret
              exact ⟨by rw [HF.out]; rfl, (Below.refl _ _).alloc (Nat.le_refl _) _⟩
        · have d1 : decide ((c : Int) < 97) = false := by simp; omega
          by_cases h2 : c ≤ 122
          · have d2 : decide ((c : Int) > 122) = false := by simp; omega
            go_wp2
            go_roundw
            case rel => exact ⟨pos + 1, by omega, rfl, HGOOD.out (.inl ⟨by omega, by omega⟩)⟩
            case measure => rw [World.iterPos_iter, World.iterPos_iter]; omega
          · have d2 : decide ((c : Int) > 122) = true := by simp; omega
            have d3 : decide ((c : Int) ≥ 48) = true := by simp; omega
            have d4 : decide ((c : Int) ≤ 57) = false := by simp; omega
            have HF := Lib.hid (HBAD.out (by unfold okB; omega))
            clear HBAD HGOOD
            cases d
            all_goals
              go_wp2
              go_ret
              exact ⟨by rw [HF.out]; rfl, (Below.refl _ _).alloc (Nat.le_refl _) _⟩
      · have HF := Lib.hid (HBAD.out (by unfold okB; omega))
        have hn := fun ty => run_next_any (P := Tryz.prog) w s pos ty hlt
        have hdh := (decode_high s pos hlt (by omega)).1
        have hdl := decode_le s pos
        generalize (Utf8.decode s pos).1 = c at *
        generalize (Utf8.decode s pos).2 = k at *
        have d1 : decide ((c : Int) < 97) = false := by simp; omega
        have d2 : decide ((c : Int) > 122) = true := by simp; omega
        have d3 : decide ((c : Int) ≥ 48) = true := by simp; omega
        have d4 : decide ((c : Int) ≤ 57) = false := by simp; omega
        cases d
        all_goals
          go_wp2
          go_ret
          exact ⟨by rw [HF.out]; rfl, (Below.refl _ _).alloc (Nat.le_refl _) _⟩
    · have hn := fun ty => run_next_end (P := Tryz.prog) w s pos ty hlt
      have hall : ∀ (i : Nat) (h : i < s.size), okB d (s[i]'h).toNat := fun i h => HAL.out i h (by omega)
      have hr : res = (decide (1 ≤ s.size) && decide (s.size ≤ 16)) := by
        rw [HR.out, ← Bool.decide_and]
        exact decide_eq_decide.2 ⟨fun h => h.2, fun h => ⟨hall, h⟩⟩
      have HRR := Lib.hid hr
      clear hall hr
      by_cases h1 : 1 ≤ s.size
      · have d1 : decide ((s.size : Int) ≥ 1) = true := by simp; omega
        by_cases h2 : s.size ≤ 16
        · have d2 : decide ((s.size : Int) ≤ 16) = true := by simp; omega
          go_wp2
          go_ret
          exact ⟨by rw [HRR.out]; simp [h1, h2], (Below.refl _ _).alloc (Nat.le_refl _) _⟩
        · have d2 : decide ((s.size : Int) ≤ 16) = false := by simp; omega
          go_wp2
          go_ret
          exact ⟨by rw [HRR.out]; simp; omega, (Below.refl _ _).alloc (Nat.le_refl _) _⟩
      · have d1 : decide ((s.size : Int) ≥ 1) = false := by simp; omega
        go_wp2
        go_ret
        exact ⟨by rw [HRR.out]; simp; omega, (Below.refl _ _).alloc (Nat.le_refl _) _⟩
noncomputable def mayB (name salt : ByteArray) (t n : Int) : Bool := decide (LettersP name false) && decide (LettersP salt true) && decide (0 ≤ t) && decide (t ≤ 100) && decide (1 ≤ n) && decide (n ≤ 2147483647)
theorem mayB_true {name salt : ByteArray} {t n : Int} (h : mayB name salt t n = true) : 1 ≤ name.size ∧ name.size ≤ 16 ∧ 1 ≤ salt.size ∧ salt.size ≤ 16 ∧ 0 ≤ t ∧ t ≤ 100 ∧ 1 ≤ n ∧ n ≤ 2147483647 := by
  unfold mayB at h
  simp only [Bool.and_eq_true, decide_eq_true_eq] at h
  obtain ⟨⟨⟨⟨⟨h1, h2⟩, h3⟩, h4⟩, h5⟩, h6⟩ := h
  exact ⟨h1.2.1, h1.2.2, h2.2.1, h2.2.2, h3, h4, h5, h6⟩
set_option maxRecDepth 100000 in
set_option maxHeartbeats 2000000 in
theorem may_any (name salt : ByteArray) (t n : Int) (w : World) (h1 : name.size ≤ maxLen) (h2 : salt.size ≤ maxLen) :
    Calls Tryz.prog 16 #[.string name, .string salt, .int .i64 t, .int .i64 n] w fun e w' => e = .returned (.bool (mayB name salt t n)) ∧ Below w.heap.size w w' := by
  have L1 := fun W => Lib.hid (letters_any name false W h1)
  have L2 := fun W => Lib.hid (letters_any salt true W h2)
  obtain ⟨r1, hr1⟩ : ∃ r, r = decide (LettersP name false) := ⟨_, rfl⟩
  obtain ⟨r2, hr2⟩ : ∃ r, r = decide (LettersP salt true) := ⟨_, rfl⟩
  simp only [← hr1] at L1
  simp only [← hr2] at L2
  have hm : mayB name salt t n = (r1 && r2 && decide (0 ≤ t) && decide (t ≤ 100) && decide (1 ≤ n) && decide (n ≤ 2147483647)) := by unfold mayB; rw [hr1, hr2]
  obtain ⟨res, hres⟩ : ∃ r, r = mayB name salt t n := ⟨_, rfl⟩
  rw [← hres] at hm ⊢
  have HM := Lib.hid hm
  clear hr1 hr2 hm hres
  cases r1 <;> cases r2
  all_goals
    go_enter Tryz.func16, Tryz.ntmps16
    go_wp2_with (first
      | (go_at_call_of 35 (Value.bool false); refine (L1 _).out.mono ?_; rintro e w1 ⟨rfl, b1⟩)
      | (go_at_call_of 35 (Value.bool true); refine (L2 _).out.mono ?_; rintro e w2 ⟨rfl, b2⟩))
    all_goals
      go_ret
      first
        | exact ⟨by rw [HM.out]; simp; try omega, b1⟩
        | exact ⟨by rw [HM.out]; simp; try omega, b1.trans (b2.mono b1.size)⟩
end Go.Proofs.YtkgbldkjpohinaaGreatDoor
