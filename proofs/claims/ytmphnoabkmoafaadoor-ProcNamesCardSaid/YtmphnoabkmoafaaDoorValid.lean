/- valid: whether a text is a name. -/
import Derived.Laws.RangeString
import Derived.Laws.RangeAny
import Derived.Test.YtmphnoabkmoafaaDoorOne
namespace Go.Proofs.YtmphnoabkmoafaaDoor
open Go.RowKit
set_option linter.unusedVariables false
/-- What is known behind k bytes: was the last one a dot? -/
def stV (s : ByteArray) : Nat → Option Bool
  | 0 => some true
  | k + 1 => match stV s k with
    | none => none
    | some dot => if h : k < s.size then (if (s[k]'h).toNat = 46 ∧ dot = false then some true else if 49 ≤ (s[k]'h).toNat ∧ (s[k]'h).toNat ≤ 57 ∧ dot = true then some false else none) else none
def validB (s : ByteArray) : Bool := match stV s s.size with
  | some dot => !dot && decide ((s.size + 1) / 2 ≤ 8)
  | none => false
theorem stV_none {s : ByteArray} {k : Nat} (h : stV s k = none) : ∀ n, k ≤ n → stV s n = none := by
  intro n hn
  induction n with
  | zero => (obtain rfl : k = 0 := (by omega)); exact h
  | succ n ih =>
    by_cases hk : k = n + 1
    · rw [← hk]; exact h
    · have := ih (by omega)
      unfold stV
      rw [this]
set_option maxRecDepth 100000 in
set_option maxHeartbeats 1000000 in
theorem valid_any (s : ByteArray) (w : World) (hs : s.size ≤ 4611686018427387904) : Calls Tryd.prog 32 #[.string s] w fun e w' => e = .returned (.bool (validB s)) ∧ Below w.heap.size w w' := by
  obtain ⟨res, hres⟩ : ∃ r, r = validB s := ⟨_, rfl⟩
  rw [← hres]
  have HR := Lib.hid hres
  clear hres
  go_enter Tryd.func32, Tryd.ntmps32
  go_wp2
  go_loopw [3, 5] (fun d _ wr => ∃ pos dot, pos ≤ s.size ∧ d = .bool dot ∧ stV s pos = some dot ∧ wr = w.iter s pos) (fun _ _ wr => s.size - wr.iterPos w.heap.size)
  case atStart => exact ⟨0, true, by omega, rfl, rfl, rfl⟩
  case round =>
    obtain ⟨pos, dot, hpos, rfl, hst, rfl⟩ := hrel
    by_cases hlt : pos < s.size
    · have hstep : stV s (pos + 1) = if (s[pos]'hlt).toNat = 46 ∧ dot = false then some true else if 49 ≤ (s[pos]'hlt).toNat ∧ (s[pos]'hlt).toNat ≤ 57 ∧ dot = true then some false else none := by rw [stV, hst]; simp only [dif_pos hlt]
      have hbad : stV s (pos + 1) = none → res = false := fun h => by
        have := stV_none h s.size (by omega)
        rw [HR.out]; unfold validB; rw [this]
      by_cases hasc : (s[pos]'hlt).toNat < 128
      · have hn := fun ty => run_next_ascii (P := Tryd.prog) w s pos ty hlt hasc
        obtain ⟨c, hc⟩ : ∃ c : Nat, c = (s[pos]'hlt).toNat := ⟨_, rfl⟩
        rw [← hc] at hstep hasc
        simp only [← hc] at hn
        clear hc
        cases dot
        · by_cases h46 : c = 46
          · subst h46
            simp only [and_self, if_true] at hstep
            clear hbad
            go_wp2
            go_roundw
            case rel => exact ⟨pos + 1, true, by omega, rfl, hstep, rfl⟩
            case measure => rw [World.iterPos_iter, World.iterPos_iter]; omega
          · have d1 : ((c : Int) == 46) = false := by simp; omega
            have hr : res = false := hbad (by rw [hstep]; simp [h46])
            clear hbad hstep
            subst hr
            by_cases h1 : 49 ≤ c
            · have d2 : decide ((c : Int) ≥ 49) = true := by simp; omega
              by_cases h2 : c ≤ 57
              · have d3 : decide ((c : Int) ≤ 57) = true := by simp; omega
                go_wp2
                go_ret
                exact ⟨rfl, (Below.refl _ _).alloc (Nat.le_refl _) _⟩
              · have d3 : decide ((c : Int) ≤ 57) = false := by simp; omega
                go_wp2
                go_ret
                exact ⟨rfl, (Below.refl _ _).alloc (Nat.le_refl _) _⟩
            · have d2 : decide ((c : Int) ≥ 49) = false := by simp; omega
              go_wp2
              go_ret
              exact ⟨rfl, (Below.refl _ _).alloc (Nat.le_refl _) _⟩
        · by_cases h1 : 49 ≤ c
          · have d2 : decide ((c : Int) ≥ 49) = true := by simp; omega
            have d1 : ((c : Int) == 46) = false := by simp; omega
            by_cases h2 : c ≤ 57
            · have d3 : decide ((c : Int) ≤ 57) = true := by simp; omega
              have hs2 : stV s (pos + 1) = some false := by rw [hstep]; simp [h1, h2]
              clear hbad hstep
              go_wp2
              go_roundw
              case rel => exact ⟨pos + 1, false, by omega, rfl, hs2, rfl⟩
              case measure => rw [World.iterPos_iter, World.iterPos_iter]; omega
            · have d3 : decide ((c : Int) ≤ 57) = false := by simp; omega
              have hr : res = false := hbad (by rw [hstep]; simp [h2])
              clear hbad hstep
              subst hr
              go_wp2
              go_ret
              exact ⟨rfl, (Below.refl _ _).alloc (Nat.le_refl _) _⟩
          · have d2 : decide ((c : Int) ≥ 49) = false := by simp; omega
            have hr : res = false := hbad (by rw [hstep]; simp [h1])
            clear hbad hstep
            subst hr
            by_cases h46 : c = 46
            · have d1 : ((c : Int) == 46) = true := by simp; omega
              go_wp2
              go_ret
              exact ⟨rfl, (Below.refl _ _).alloc (Nat.le_refl _) _⟩
            · have d1 : ((c : Int) == 46) = false := by simp; omega
              go_wp2
              go_ret
              exact ⟨rfl, (Below.refl _ _).alloc (Nat.le_refl _) _⟩
      · have hr : res = false := hbad (by rw [hstep, if_neg (by omega), if_neg (by omega)])
        clear hbad hstep
        subst hr
        have hn := fun ty => run_next_any (P := Tryd.prog) w s pos ty hlt
        have hdh := (decode_high s pos hlt (by omega)).1
        have hdl := decode_le s pos
        generalize (Utf8.decode s pos).1 = c at *
        generalize (Utf8.decode s pos).2 = k at *
        have d1 : ((c : Int) == 46) = false := by simp; omega
        have d2 : decide ((c : Int) ≥ 49) = true := by simp; omega
        have d3 : decide ((c : Int) ≤ 57) = false := by simp; omega
        go_wp2
        go_ret
        exact ⟨rfl, (Below.refl _ _).alloc (Nat.le_refl _) _⟩
    · have hn := fun ty => run_next_end (P := Tryd.prog) w s pos ty hlt
      obtain rfl : pos = s.size := by omega
      have hr : res = (!dot && decide ((s.size + 1) / 2 ≤ 8)) := by rw [HR.out]; unfold validB; rw [hst]
      cases dot
      · by_cases h15 : (s.size + 1) / 2 ≤ 8
        · have d1 : decide (((s.size : Int) + 1) / 2 ≤ 8) = true := by simp; omega
          simp [h15] at hr
          subst hr
          go_wp2
          go_ret
          exact ⟨rfl, (Below.refl _ _).alloc (Nat.le_refl _) _⟩
        · have d1 : decide (((s.size : Int) + 1) / 2 ≤ 8) = false := by simp; omega
          simp [h15] at hr
          subst hr
          go_wp2
          go_ret
          exact ⟨rfl, (Below.refl _ _).alloc (Nat.le_refl _) _⟩
      · simp at hr
        subst hr
        go_wp2
        go_ret
        exact ⟨rfl, (Below.refl _ _).alloc (Nat.le_refl _) _⟩
end Go.Proofs.YtmphnoabkmoafaaDoor
