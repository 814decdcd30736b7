/- PassReads: the walk. -/
import Derived.Test.YtkgbldkjpohinaaDoorRead
import Derived.Test.YtkgbldkjpohinaaDoorReadA
import Derived.Test.YtkgbldkjpohinaaDoorBookAwake
namespace Go.Proofs.YtkgbldkjpohinaaDoor
open Go.RowKit Go.Maps Go.Sort
set_option linter.unusedVariables false
set_option maxRecDepth 100000 in
set_option maxHeartbeats 8000000 in
theorem reads_any (s : ByteArray) (w : World) (hs : s.size ≤ 1048576) (hv : LibV w) : Calls Tryd.prog 4 #[.string s] w fun e w' => e = .returned (.bool true) ∧ Below w.heap.size w w' := by
  have HR := Lib.hid (read_any s w hs hv)
  have HV := Lib.hid hv
  clear hv
  go_enter Tryd.func4, Tryd.ntmps4
  go_upto_region 2 with (go_at_call 12; refine HR.out.mono ?_; rintro e w1 ⟨k1, ⟨b, mu, mf, nu, nf, D, Df, m, rfl, hst, hinv, hm, htx⟩ | ⟨rfl, hsz⟩⟩)
  · obtain ⟨q1, q2, q3⟩ := hinv.keys
    have hl := textL_short (D := D) (keysOf D) q3
    have HST := Lib.hid hst
    have K1 := Lib.hid k1
    have HT : Hid (∀ w2, Below w1.heap.size w1 w2 → Calls Tryd.prog 9 #[.pointer (some ⟨b, 0, none⟩)] w2 fun e w' => e = .returned (.string s) ∧ Below w2.heap.size w2 w') := fun w2 k => by
      have h2 := hst.keep k
      have := text_any b mu mf nu D 3 100 w2 h2.at_ h2.hu (by omega) (by omega) q3 (by omega) (HV.out.below h2.below (Nat.le_refl _)).pow
      rwa [htx] at this
    clear hst k1 q1 q2 q3 hl htx hinv
    go_wp2_with (first
      | (go_at_call 12; refine (read_arg s _).mono ?_; rintro e w2 ⟨rfl, k2⟩; have K2 := Lib.hid k2; clear k2)
      | (go_at_call 9; refine (HT.out _ K2.out).mono ?_; rintro e w3 ⟨rfl, k3⟩; have K3 := Lib.hid (K2.out.trans (k3.mono K2.out.size)); clear k3)
      | (go_at_call 5; refine (awake15_any _).mono ?_; rintro e w4 ⟨rfl, k4⟩; have K4 := Lib.hid (K3.out.trans (k4.mono K3.out.size)); clear k4))
    go_ret
    exact ⟨rfl, K1.out.trans (K4.out.mono K1.out.size)⟩
  · have hn0 : (s.toList == (ByteArray.mk #[]).toList) = false := beq_false_of (fun h => hsz (by rw [h]; rfl))
    have hne : s.toList.isEmpty = false := by
      cases hl : s.toList with
      | nil =>
        rw [hl] at hn0
        have e : (ByteArray.mk #[]).toList = [] := by simp
        rw [e] at hn0
        cases hn0
      | cons a l => rfl
    clear hn0
    have HSZ := Lib.hid hsz
    clear hsz
    have K1 := Lib.hid k1
    clear k1
    go_wp2_with (first
      | (go_at_call 5; refine (awake15_any _).mono ?_; rintro e w4 ⟨rfl, k4⟩; have K4 := Lib.hid k4; clear k4))
    go_ret
    exact ⟨rfl, K1.out.trans (K4.out.mono K1.out.size)⟩
end Go.Proofs.YtkgbldkjpohinaaDoor
