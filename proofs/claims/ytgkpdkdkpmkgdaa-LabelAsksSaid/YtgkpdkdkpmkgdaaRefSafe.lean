/- The reference's Safe. -/
import Derived.BigQuiet
import Derived.Test.YtgkpdkdkpmkgdaaBox
import Derived.Test.YtgkpdkdkpmkgdaaRefHas
import Derived.Test.YtgkpdkdkpmkgdaaSafe
namespace Go.Proofs.Ytgkpdkdkpmkgdaa
open Go.RowKit
theorem safe_of {la lb lp lm : List Int} (h1 : ∀ x ∈ lb, x ∈ la ∨ x ∈ lp) (h2 : ∀ x ∈ la, x ∈ lb ∨ x ∈ lm) : safeL la lb lp lm = true := by
  unfold safeL subL lessL
  simp only [Bool.and_eq_true, decide_eq_true_eq, List.mem_filter, Bool.not_eq_true', decide_eq_false_iff_not]
  exact ⟨fun x ⟨k1, k2⟩ => (h1 x k1).resolve_left k2, fun x ⟨k1, k2⟩ => (h2 x k1).resolve_left k2⟩
theorem not_safe1 {la lb lp lm : List Int} {x : Int} (h1 : x ∈ lb) (h2 : ¬ x ∈ la) (h3 : ¬ x ∈ lp) : safeL la lb lp lm = false := by
  unfold safeL subL lessL
  rw [decide_eq_false (fun h => h3 (h x (by simp [h1, h2]))), Bool.false_and]
theorem not_safe2 {la lb lp lm : List Int} {x : Int} (h1 : x ∈ la) (h2 : ¬ x ∈ lb) (h3 : ¬ x ∈ lm) : safeL la lb lp lm = false := by
  unfold safeL subL lessL
  rw [show decide (∀ y ∈ la.filter fun z => !decide (z ∈ lb), y ∈ lm) = false from decide_eq_false (fun h => h3 (h x (by simp [h1, h2]))), Bool.and_false]
theorem getD_in {l : List Int} {k : Nat} (h : k < l.length) : l.getD k 0 ∈ l := by
  simp only [List.getD, List.getElem?_eq_getElem h, Option.getD_some]
  exact List.getElem_mem _
set_option maxRecDepth 100000 in
set_option maxHeartbeats 2000000 in
theorem refsafe_any (a b p m : Value) (la lb lp lm : List Int) (w : World) (ha : IntsAt w a la) (hb : IntsAt w b lb) (hp : IntsAt w p lp) (hm : IntsAt w m lm) (na : la.length ≤ 17592186043904) (nb : lb.length ≤ 17592186043904) (np : lp.length ≤ 17592186043904) (nm : lm.length ≤ 17592186043904) :
    Calls Try.prog 33 #[a, b, .agg #[p, m]] w fun e w' => e = .returned (.bool (safeL la lb lp lm)) ∧ Below w.heap.size w w' := by
  obtain ⟨aoa, ca, hva⟩ := ha.shape
  obtain ⟨aob, cb, hvb⟩ := hb.shape
  obtain ⟨aop, cp, hvp⟩ := hp.shape
  obtain ⟨aom, cm, hvm⟩ := hm.shape
  subst hva hvb hvp hvm
  obtain ⟨ma, hma⟩ : ∃ n, n = la.length := ⟨_, rfl⟩
  obtain ⟨mb, hmb⟩ : ∃ n, n = lb.length := ⟨_, rfl⟩
  obtain ⟨mp, hmp⟩ : ∃ n, n = lp.length := ⟨_, rfl⟩
  obtain ⟨mm, hmm⟩ : ∃ n, n = lm.length := ⟨_, rfl⟩
  rw [← hma] at ha na ⊢
  rw [← hmb] at hb nb ⊢
  rw [← hmp] at hp np ⊢
  rw [← hmm] at hm nm ⊢
  obtain ⟨W, hW, hbel, hWs, hcell⟩ := box1 w (.slice aop mp cp) (.slice aom mm cm) 37
  have hI : ∀ n, IntsAt (W.drewN n) (.slice aoa ma ca) la ∧ IntsAt (W.drewN n) (.slice aob mb cb) lb ∧ IntsAt (W.drewN n) (.slice aop mp cp) lp ∧ IntsAt (W.drewN n) (.slice aom mm cm) lm := fun n =>
    ⟨(ha.below hbel (Nat.le_refl _)).drewN n, (hb.below hbel (Nat.le_refl _)).drewN n, (hp.below hbel (Nat.le_refl _)).drewN n, (hm.below hbel (Nat.le_refl _)).drewN n⟩
  have d0 : ∀ n, (W.drewN n).cell? ⟨w.heap.size, 0, none⟩ = some (.slice aop mp cp) := fun n => (hcell W (Below.refl _ _)).1
  have d1 : ∀ n, (W.drewN n).cell? ⟨w.heap.size, 1, none⟩ = some (.slice aom mm cm) := fun n => (hcell W (Below.refl _ _)).2
  have hA : ∀ x n, Calls Try.prog 49 #[.slice aoa ma ca, .int .i64 x] (W.drewN n) fun e w' => e = .returned (.bool (decide (x ∈ la))) ∧ w' = W.drewN n := fun x n => has_any _ la x _ (hI n).1 (by omega)
  have hB : ∀ x n, Calls Try.prog 49 #[.slice aob mb cb, .int .i64 x] (W.drewN n) fun e w' => e = .returned (.bool (decide (x ∈ lb))) ∧ w' = W.drewN n := fun x n => has_any _ lb x _ (hI n).2.1 (by omega)
  have hP : ∀ x n, Calls Try.prog 49 #[.slice aop mp cp, .int .i64 x] (W.drewN n) fun e w' => e = .returned (.bool (decide (x ∈ lp))) ∧ w' = W.drewN n := fun x n => has_any _ lp x _ (hI n).2.2.1 (by omega)
  have hM : ∀ x n, Calls Try.prog 49 #[.slice aom mm cm, .int .i64 x] (W.drewN n) fun e w' => e = .returned (.bool (decide (x ∈ lm))) ∧ w' = W.drewN n := fun x n => has_any _ lm x _ (hI n).2.2.2 (by omega)
  obtain ⟨r, hr⟩ : ∃ r, r = safeL la lb lp lm := ⟨_, rfl⟩
  rw [← hr]
  have Hr := Lib.hid hr
  have HA := Lib.hid hA
  have HB := Lib.hid hB
  have HP := Lib.hid hP
  have HM := Lib.hid hM
  have HI := Lib.hid hI
  have D0 := Lib.hid d0
  have D1 := Lib.hid d1
  have Hma := Lib.hid hma
  have Hmb := Lib.hid hmb
  have Hbel := Lib.hid hbel
  have HWs := Lib.hid hWs
  clear hr hA hB hP hM hI d0 d1 hma hmb hmp hmm hbel hWs ha hb hp hm hcell
  go_enter Try.func33, Try.ntmps33
  go_wp2
  rw [← hW]
  clear hW
  go_loopw [7] (fun u wr => ∃ k j : Nat, k ≤ mb ∧ u = .int .i64 k ∧ (∀ x ∈ lb.take k, x ∈ la ∨ x ∈ lp) ∧ wr = W.drewN j) (fun u _ => mb - (intOf u).toNat)
  case atStart => exact ⟨0, 0, by omega, rfl, by simp, rfl⟩
  case round =>
    obtain ⟨k, j, hk, rfl, hall, rfl⟩ := hrel
    by_cases hlt : k < mb
    · have hib := (HI.out 0).2.1
      rw [Hmb.out] at hib
      obtain ⟨g, off, c', hv, hcell⟩ := hib.cells (by have := Hmb.out; omega)
      obtain ⟨rfl, rfl⟩ : aob = some ⟨g, off, none⟩ ∧ cb = c' := by simpa using hv
      have c0 : ∀ n, (W.drewN n).cell? ⟨g, off + k, none⟩ = some (.int .i64 (lb.getD k 0)) := fun _ => hcell k (by have := Hmb.out; omega)
      have hkl : k < lb.length := by have := Hmb.out; omega
      have Hin : Hid (lb.getD k 0 ∈ lb ∧ ∀ y, y ∈ lb.take (k + 1) ↔ y ∈ lb.take k ∨ y = lb.getD k 0) := ⟨getD_in hkl, fun y => mem_take_succ hkl y⟩
      generalize lb.getD k 0 = x at c0 Hin
      have Hall := Lib.hid hall
      clear hib hv hcell hkl hall
      have d0 := D0.out
      have cA := HA.out x
      have cP := HP.out x
      have ha' : (x ∈ la) ∨ (¬ x ∈ la ∧ x ∈ lp) ∨ (¬ x ∈ la ∧ ¬ x ∈ lp) := by
        by_cases h1 : x ∈ la
        · exact .inl h1
        · by_cases h2 : x ∈ lp
          · exact .inr (.inl ⟨h1, h2⟩)
          · exact .inr (.inr ⟨h1, h2⟩)
      rcases ha' with h1 | ⟨h1, h2⟩ | ⟨h1, h2⟩
      · rw [decide_eq_true h1] at cA
        have H1 := Lib.hid h1
        have CA := Lib.hid cA
        clear h1 cA cP
        go_wp2
        go_quiet ((with_reducible refine (CA.out _).mono ?_; rintro e w' ⟨rfl, rfl⟩; exact ⟨rfl, _, rfl⟩))
        go_wp2
        refine ⟨⟨k + 1, j + nq, by omega, by go_num, fun y hy => ?_, rfl⟩, by simp [intOf]; omega⟩
        rcases (Hin.out.2 y).1 hy with h | h
        · exact Hall.out y h
        · rw [h]; exact .inl H1.out
      · rw [decide_eq_false h1] at cA
        rw [decide_eq_true h2] at cP
        have H2 := Lib.hid h2
        have CA := Lib.hid cA
        have CP := Lib.hid cP
        clear h1 h2 cA cP
        go_wp2
        go_quiet ((first | (with_reducible refine (CA.out _).mono ?_; rintro e w' ⟨rfl, rfl⟩; exact ⟨rfl, _, rfl⟩) | (with_reducible refine (CP.out _).mono ?_; rintro e w' ⟨rfl, rfl⟩; exact ⟨rfl, _, rfl⟩)))
        go_wp2
        refine ⟨⟨k + 1, j + nq, by omega, by go_num, fun y hy => ?_, rfl⟩, by simp [intOf]; omega⟩
        rcases (Hin.out.2 y).1 hy with h | h
        · exact Hall.out y h
        · rw [h]; exact .inr H2.out
      · have hf : Hid (safeL la lb lp lm = false) := not_safe1 Hin.out.1 h1 h2
        rw [decide_eq_false h1] at cA
        rw [decide_eq_false h2] at cP
        have CA := Lib.hid cA
        have CP := Lib.hid cP
        clear h1 h2 cA cP
        go_wp2
        go_quiet ((first | (with_reducible refine (CA.out _).mono ?_; rintro e w' ⟨rfl, rfl⟩; exact ⟨rfl, _, rfl⟩) | (with_reducible refine (CP.out _).mono ?_; rintro e w' ⟨rfl, rfl⟩; exact ⟨rfl, _, rfl⟩)))
        go_wp2
        go_ret
        exact ⟨by rw [Hr.out, hf.out]; rfl, ⟨Hbel.out.os, Hbel.out.tape, Hbel.out.output, Hbel.out.size, Hbel.out.block⟩⟩
    · obtain rfl : k = mb := by omega
      have H1 : Hid (∀ x ∈ lb, x ∈ la ∨ x ∈ lp) := by rw [List.take_of_length_le (by have := Hmb.out; omega)] at hall; exact hall
      clear hall
      go_wp2
      go_loopw [8] (fun u wr => ∃ k' j' : Nat, k' ≤ ma ∧ u = .int .i64 k' ∧ (∀ x ∈ la.take k', x ∈ lb ∨ x ∈ lm) ∧ wr = W.drewN j') (fun u _ => ma - (intOf u).toNat)
      case atStart => exact ⟨0, j, by omega, rfl, by simp, rfl⟩
      case round =>
        obtain ⟨k', j', hk', rfl, hall, rfl⟩ := hrel
        by_cases hlt : k' < ma
        · have hib := (HI.out 0).1
          rw [Hma.out] at hib
          obtain ⟨g, off, c', hv, hcell⟩ := hib.cells (by have := Hma.out; omega)
          obtain ⟨rfl, rfl⟩ : aoa = some ⟨g, off, none⟩ ∧ ca = c' := by simpa using hv
          have c0 : ∀ n, (W.drewN n).cell? ⟨g, off + k', none⟩ = some (.int .i64 (la.getD k' 0)) := fun _ => hcell k' (by have := Hma.out; omega)
          have hkl : k' < la.length := by have := Hma.out; omega
          have Hin : Hid (la.getD k' 0 ∈ la ∧ ∀ y, y ∈ la.take (k' + 1) ↔ y ∈ la.take k' ∨ y = la.getD k' 0) := ⟨getD_in hkl, fun y => mem_take_succ hkl y⟩
          generalize la.getD k' 0 = x at c0 Hin
          have Hall := Lib.hid hall
          clear hib hv hcell hkl hall
          have d1 := D1.out
          have cA := HB.out x
          have cP := HM.out x
          have ha' : (x ∈ lb) ∨ (¬ x ∈ lb ∧ x ∈ lm) ∨ (¬ x ∈ lb ∧ ¬ x ∈ lm) := by
            by_cases h1 : x ∈ lb
            · exact .inl h1
            · by_cases h2 : x ∈ lm
              · exact .inr (.inl ⟨h1, h2⟩)
              · exact .inr (.inr ⟨h1, h2⟩)
          rcases ha' with h1 | ⟨h1, h2⟩ | ⟨h1, h2⟩
          · rw [decide_eq_true h1] at cA
            have H1 := Lib.hid h1
            have CA := Lib.hid cA
            clear h1 cA cP
            go_wp2
            go_quiet ((with_reducible refine (CA.out _).mono ?_; rintro e w' ⟨rfl, rfl⟩; exact ⟨rfl, _, rfl⟩))
            go_wp2
            refine ⟨⟨k' + 1, j' + nq, by omega, by go_num, fun y hy => ?_, rfl⟩, by simp [intOf]; omega⟩
            rcases (Hin.out.2 y).1 hy with h | h
            · exact Hall.out y h
            · rw [h]; exact .inl H1.out
          · rw [decide_eq_false h1] at cA
            rw [decide_eq_true h2] at cP
            have H2 := Lib.hid h2
            have CA := Lib.hid cA
            have CP := Lib.hid cP
            clear h1 h2 cA cP
            go_wp2
            go_quiet ((first | (with_reducible refine (CA.out _).mono ?_; rintro e w' ⟨rfl, rfl⟩; exact ⟨rfl, _, rfl⟩) | (with_reducible refine (CP.out _).mono ?_; rintro e w' ⟨rfl, rfl⟩; exact ⟨rfl, _, rfl⟩)))
            go_wp2
            refine ⟨⟨k' + 1, j' + nq, by omega, by go_num, fun y hy => ?_, rfl⟩, by simp [intOf]; omega⟩
            rcases (Hin.out.2 y).1 hy with h | h
            · exact Hall.out y h
            · rw [h]; exact .inr H2.out
          · have hf : Hid (safeL la lb lp lm = false) := not_safe2 Hin.out.1 h1 h2
            rw [decide_eq_false h1] at cA
            rw [decide_eq_false h2] at cP
            have CA := Lib.hid cA
            have CP := Lib.hid cP
            clear h1 h2 cA cP
            go_wp2
            go_quiet ((first | (with_reducible refine (CA.out _).mono ?_; rintro e w' ⟨rfl, rfl⟩; exact ⟨rfl, _, rfl⟩) | (with_reducible refine (CP.out _).mono ?_; rintro e w' ⟨rfl, rfl⟩; exact ⟨rfl, _, rfl⟩)))
            go_wp2
            go_ret
            exact ⟨by rw [Hr.out, hf.out]; rfl, ⟨Hbel.out.os, Hbel.out.tape, Hbel.out.output, Hbel.out.size, Hbel.out.block⟩⟩
        · obtain rfl : k' = ma := by omega
          have H2 : Hid (safeL la lb lp lm = true) := safe_of H1.out (by rw [List.take_of_length_le (by have := Hma.out; omega)] at hall; exact hall)
          clear hall
          go_wp2
          go_ret
          exact ⟨by rw [Hr.out, H2.out]; rfl, ⟨Hbel.out.os, Hbel.out.tape, Hbel.out.output, Hbel.out.size, Hbel.out.block⟩⟩
end Go.Proofs.Ytgkpdkdkpmkgdaa
