/- The reference's Set. -/
import Derived.BigQuiet
import Derived.Test.YtgkpdkdkpmkgdaaRefHas
namespace Go.Proofs.Ytgkpdkdkpmkgdaa
open Go.RowKit
set_option maxRecDepth 100000 in
set_option maxHeartbeats 1600000 in
theorem refset_any (v : Value) (l : List Int) (w : World) (h : IntsAt w v l) (hl : l.length ≤ 1000000000000000) :
    Calls Try.prog 17 #[v] w fun e w' => e = .returned (.bool (setL l)) ∧ ∃ m, w' = w.drewN m := by
  obtain ⟨ao, c, rfl⟩ := h.shape
  obtain ⟨n, hn⟩ : ∃ n, n = l.length := ⟨_, rfl⟩
  have Hn := Lib.hid hn
  have H' : Hid (IntsAt w (.slice ao l.length c) l) := h
  rw [← hn] at hl H' ⊢
  clear hn h
  go_enter Try.func17, Try.ntmps17
  go_wp2
  go_loopw [3] (fun u wr => ∃ k m : Nat, k ≤ n ∧ u = .int .i64 k ∧ risesTo l k = true ∧ wr = w.drewN m) (fun u _ => n - (intOf u).toNat)
  case atStart => exact ⟨0, 0, by omega, rfl, rfl, rfl⟩
  case round =>
    obtain ⟨k, m, hk, rfl, hr, rfl⟩ := hrel
    by_cases hlt : k < n
    · have hia := H'.out
      rw [Hn.out] at hia
      obtain ⟨g, off, c', hv, hcell⟩ := hia.cells (by have := Hn.out; omega)
      obtain ⟨rfl, rfl⟩ : ao = some ⟨g, off, none⟩ ∧ c = c' := by simpa using hv
      have c0 : ∀ m, (w.drewN m).cell? ⟨g, off + k, none⟩ = some (.int .i64 (l.getD k 0)) := fun _ => hcell k (by have := Hn.out; omega)
      have hkl : k < l.length := by have := Hn.out; omega
      have Hkl := Lib.hid hkl
      have hstep : risesTo l (k + 1) = (decide (1 ≤ l.getD k 0) && decide (l.getD k 0 ≤ 2147483647) && (decide (k = 0) || decide (l.getD (k - 1) 0 < l.getD k 0))) := by
        rw [risesTo, hr]; rfl
      have c1 : 0 < k → ∀ m, (w.drewN m).cell? ⟨g, off + (k - 1), none⟩ = some (.int .i64 (l.getD (k - 1) 0)) := fun _ _ => hcell (k - 1) (by have := Hn.out; omega)
      obtain ⟨x, hx⟩ : ∃ x, x = l.getD k 0 := ⟨_, rfl⟩
      obtain ⟨y, hy⟩ : ∃ y, y = l.getD (k - 1) 0 := ⟨_, rfl⟩
      simp only [← hx] at c0
      simp only [← hy] at c1
      rw [← hx, ← hy] at hstep
      have Hs := Lib.hid hstep
      have C1 := Lib.hid c1
      clear hia hcell hv hx hy hr hstep c1 H' hkl
      have fin : ∀ b, risesTo l (k + 1) = false → b = false → b = setL l := fun b h1 h2 => by rw [setL_false Hkl.out h1, h2]
      have Fin := Lib.hid fin
      clear fin
      by_cases hx1 : x < 1
      · have d1 : decide (x < 1) = true := by simp [hx1]
        go_wp2
        go_quiet (fail)
        go_wp2
        go_ret
        refine ⟨?_, m + nq, World.drewN_drewN _ _ _⟩
        rw [← Fin.out false (by rw [Hs.out]; simp; omega) rfl]
        rfl
      · by_cases hx2 : x > 2147483647
        · have d1 : decide (x < 1) = false := by simp; omega
          have d2 : decide (x > 2147483647) = true := by simp; omega
          go_wp2
          go_quiet (fail)
          go_wp2
          go_ret
          refine ⟨?_, m + nq, World.drewN_drewN _ _ _⟩
          rw [← Fin.out false (by rw [Hs.out]; simp; omega) rfl]
          rfl
        · have d1 : decide (x < 1) = false := by simp; omega
          have d2 : decide (x > 2147483647) = false := by simp; omega
          rcases Nat.eq_zero_or_pos k with rfl | hk0
          · have c2 : ∀ m, (w.drewN m).cell? ⟨g, off, none⟩ = some (.int .i64 x) := c0
            go_wp2
            go_quiet (fail)
            go_wp2
            refine ⟨⟨1, m + nq, by omega, rfl, by rw [Hs.out]; simp; omega, rfl⟩, by simp [intOf]; omega⟩
          · obtain ⟨j, rfl⟩ : ∃ j, k = j + 1 := ⟨k - 1, by omega⟩
            have c2 : ∀ m, (w.drewN m).cell? ⟨g, off + j, none⟩ = some (.int .i64 y) := C1.out hk0
            have e2 : IntKind.i64.wrap (j : Int) = j := by simp [IntKind.wrap, IntKind.signed, IntKind.bits]; omega
            by_cases hxy : x ≤ y
            · have d3 : decide (x ≤ y) = true := by simp [hxy]
              go_wp2
              go_quiet (fail)
              go_wp2
              go_ret
              refine ⟨?_, m + nq, World.drewN_drewN _ _ _⟩
              rw [← Fin.out false (by rw [Hs.out]; simp; omega) rfl]
              rfl
            · have d3 : decide (x ≤ y) = false := by simp; omega
              go_wp2
              go_quiet (fail)
              go_wp2
              refine ⟨⟨j + 2, m + nq, by omega, by go_num, by rw [Hs.out]; simp; omega, rfl⟩, by simp [intOf]; omega⟩
    · obtain rfl : k = n := by omega
      have hs : setL l = decide (k ≤ 16) := by unfold setL; rw [← Hn.out, hr]; rfl
      have Hs := Lib.hid hs
      clear hs hr H'
      go_wp2
      go_ret
      rw [Hs.out]
      exact ⟨by simp; omega, m, rfl⟩
end Go.Proofs.Ytgkpdkdkpmkgdaa
