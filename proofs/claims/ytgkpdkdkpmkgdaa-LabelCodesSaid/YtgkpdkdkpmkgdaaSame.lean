/- lazaretref3.SameSet: whether two lists are one. -/
import Derived.Deep.QuietTactic
import Derived.Test.YtgkpdkdkpmkgdaaSet
namespace Go.Proofs.Ytgkpdkdkpmkgdaa
open Go.RowKit
theorem take_eq_step {la lb : List Int} {k : Nat} (hk : k < la.length) (hl : la.length = lb.length) (h : la.take k = lb.take k) (e : la.getD k 0 = lb.getD k 0) : la.take (k + 1) = lb.take (k + 1) := by
  rw [List.take_add_one, List.take_add_one, h]
  congr 1
  have h2 : k < lb.length := by omega
  simp [List.getD, hk, h2] at e ⊢
  exact e
set_option maxRecDepth 100000 in
set_option maxHeartbeats 2000000 in
theorem same_any (a b : Value) (la lb : List Int) (w : World) (ha : IntsAt w a la) (hb : IntsAt w b lb) (hla : la.length ≤ 17592186043904) (hlb : lb.length ≤ 17592186043904) :
    Calls Try.prog 13 #[a, b] w fun e w' => e = .returned (.bool (decide (la = lb))) ∧ ∃ n, w' = w.drewN n := by
  obtain ⟨aoa, ca, hva⟩ := ha.shape
  obtain ⟨aob, cb, hvb⟩ := hb.shape
  subst hva hvb
  obtain ⟨na, hna⟩ : ∃ n, n = la.length := ⟨_, rfl⟩
  obtain ⟨nb, hnb⟩ : ∃ n, n = lb.length := ⟨_, rfl⟩
  have Hna := Lib.hid hna
  have Hnb := Lib.hid hnb
  rw [← hna] at ha hla ⊢
  rw [← hnb] at hb hlb ⊢
  clear hna hnb
  have Ha := Lib.hid ha
  have Hb := Lib.hid hb
  clear ha hb
  by_cases hl : na = nb
  · subst hl
    go_enter Try.func13, Try.ntmps13
    go_wp2
    go_loopw [5] (fun u wr => ∃ k n : Nat, k ≤ na ∧ u = .int .i64 k ∧ la.take k = lb.take k ∧ wr = w.drewN n) (fun u _ => na - (intOf u).toNat)
    case atStart => exact ⟨0, 0, by omega, rfl, by simp, rfl⟩
    case round =>
      obtain ⟨k, n, hk, rfl, htk, rfl⟩ := hrel
      by_cases hlt : k < na
      · have hia := Ha.out
        have hib := Hb.out
        rw [Hna.out] at hia
        obtain ⟨g, off, c', hv, hcell⟩ := hia.cells (by have := Hna.out; omega)
        obtain ⟨rfl, rfl⟩ : aoa = some ⟨g, off, none⟩ ∧ ca = c' := by simpa using hv
        have hnb2 : na = lb.length := Hnb.out
        rw [hnb2] at hib
        obtain ⟨g2, off2, c2', hv2, hcell2⟩ := hib.cells (by omega)
        obtain ⟨rfl, rfl⟩ : aob = some ⟨g2, off2, none⟩ ∧ cb = c2' := by simpa using hv2
        have c0 : ∀ m, (w.drewN m).cell? ⟨g, off + k, none⟩ = some (.int .i64 (la.getD k 0)) := fun m => hcell k (by have := Hna.out; omega)
        have c1 : ∀ m, (w.drewN m).cell? ⟨g2, off2 + k, none⟩ = some (.int .i64 (lb.getD k 0)) := fun m => hcell2 k (by omega)
        obtain ⟨x, hx⟩ : ∃ x, x = la.getD k 0 := ⟨_, rfl⟩
        obtain ⟨y, hy⟩ : ∃ y, y = lb.getD k 0 := ⟨_, rfl⟩
        simp only [← hx] at c0
        simp only [← hy] at c1
        have Htk := Lib.hid htk
        have Hx := Lib.hid hx
        have Hy := Lib.hid hy
        have Hk : Hid (k < la.length ∧ la.length = lb.length) := ⟨by have := Hna.out; omega, by have := Hna.out; omega⟩
        clear hia hib hcell hcell2 hv hv2 htk hx hy hnb2 Ha Hb
        go_wp2
        go_quiet (fail)
        by_cases hxy : x = y
        · have hb : (x != y) = false := by simp [hxy]
          have Hxy := Lib.hid hxy
          clear hxy
          go_wp2
          refine ⟨⟨k + 1, n + nq, by omega, by go_num, ?_, rfl⟩, by simp [intOf]; omega⟩
          exact take_eq_step Hk.out.1 Hk.out.2 Htk.out (by rw [← Hx.out, ← Hy.out]; exact Hxy.out)
        · have hb : (x != y) = true := by simp [hxy]
          have Hxy := Lib.hid hxy
          clear hxy
          go_wp2
          go_ret
          refine ⟨?_, n + nq, World.drewN_drewN _ _ _⟩
          rw [decide_eq_false (fun e => Hxy.out (by rw [Hx.out, Hy.out, e]))]
          rfl
      · obtain rfl : k = na := by omega
        have he : la = lb := by
          have h1 := Hna.out
          have h2 := Hnb.out
          rw [List.take_of_length_le (by omega), List.take_of_length_le (by omega)] at htk
          exact htk
        have He : Hid (decide (la = lb) = true) := decide_eq_true he
        clear he htk Ha Hb
        go_wp2
        go_ret
        exact ⟨by rw [He.out]; rfl, _, rfl⟩
  · have He : Hid (decide (la = lb) = false) := decide_eq_false (fun e => hl (by rw [Hna.out, Hnb.out, e]))
    go_enter Try.func13, Try.ntmps13
    go_wp2
    go_ret
    exact ⟨by rw [He.out]; rfl, 0, rfl⟩
end Go.Proofs.Ytgkpdkdkpmkgdaa
