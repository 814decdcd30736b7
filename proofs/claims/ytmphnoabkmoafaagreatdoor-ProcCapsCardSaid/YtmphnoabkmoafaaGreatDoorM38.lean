/- Info, which leaves all that was as it was. -/
import Derived.Test.YtmphnoabkmoafaaGreatDoorM20
namespace Go.Proofs.YtmphnoabkmoafaaGreatDoor
open Go.RowKit Go.Maps
set_option linter.unusedVariables false
variable {uu0 : Unit} [Base uu0]
set_option maxRecDepth 100000 in
set_option maxHeartbeats 2000000 in
theorem info_none_b (B T M : Nat) (bl : ByteArray → Nat) (L : List PR) (id : ByteArray) (w : World) (h : TabAt w B T M bl L) (hid : id.size ≤ maxLen) (hg : get L id = none) :
    Calls Tryz.prog 8 #[ptr T, .string id] w fun e w' => e = .returned (.tuple #[noInfo, .int .i64 61]) ∧ Below w.heap.size w w' := by
  obtain ⟨W, hW⟩ : ∃ W, W = w.alloc (.cells #[.string ⟨#[]⟩, .string ⟨#[]⟩, .slice none 0 0, .slice none 0 0, .slice none 0 0, .slice none 0 0, .int .i64 0, .int .i64 0, .bool false, .int .i64 0] 38) := ⟨_, rfl⟩
  have bW : Below w.heap.size w W := by rw [hW]; exact (Below.refl _ _).alloc (Nat.le_refl _) _
  have hT := h.below bW
  have hrun := hT.lookup id hid
  unfold ptrOf at hrun
  rw [hg] at hrun
  have cT := hT.cellT
  unfold ptr
  have HT := Lib.hid hT
  have HbW := Lib.hid bW
  have Hlow : Hid (B ≤ w.heap.size) := Nat.le_trans h.lowT (Nat.le_of_lt h.ltT)
  have HLO : Hid (Base.lo ≤ w.heap.size) := Nat.le_trans h.lowB Hlow.out
  clear hT h hg bW
  go_enter Tryz.func8, Tryz.ntmps8
  go_upto_region 1 with (fail)
  have hrow : W.heap[w.heap.size]? = some (.cells #[.string ⟨#[]⟩, .string ⟨#[]⟩, .slice none 0 0, .slice none 0 0, .slice none 0 0, .slice none 0 0, .int .i64 0, .int .i64 0, .bool false, .int .i64 0] 38 (0, 0)) := by rw [hW]; exact heap_alloc_new _ _
  rw [← hW]
  clear hW
  have q := fun i => cell_of_row W w.heap.size i _ 38 (0, 0) hrow
  have z0 : W.cell? ⟨w.heap.size, 0, none⟩ = some (.string ⟨#[]⟩) := q 0
  have z1 : W.cell? ⟨w.heap.size, 1, none⟩ = some (.string ⟨#[]⟩) := q 1
  have z2 : W.cell? ⟨w.heap.size, 2, none⟩ = some (.slice none 0 0) := q 2
  have z3 : W.cell? ⟨w.heap.size, 3, none⟩ = some (.slice none 0 0) := q 3
  have z4 : W.cell? ⟨w.heap.size, 4, none⟩ = some (.slice none 0 0) := q 4
  have z5 : W.cell? ⟨w.heap.size, 5, none⟩ = some (.slice none 0 0) := q 5
  have z6 : W.cell? ⟨w.heap.size, 6, none⟩ = some (.int .i64 0) := q 6
  have z7 : W.cell? ⟨w.heap.size, 7, none⟩ = some (.int .i64 0) := q 7
  have z8 : W.cell? ⟨w.heap.size, 8, none⟩ = some (.bool false) := q 8
  have z9 : W.cell? ⟨w.heap.size, 9, none⟩ = some (.int .i64 0) := q 9
  have hfr : ∀ i, W.frozen? ⟨w.heap.size, i, none⟩ = false := fun i => frozen_of_row W w.heap.size i _ 38 hrow
  clear q
  go_wp2
  have A := ((((((((((AtT.start hrow).set 0 (.string ⟨#[]⟩)).set 1 (.string ⟨#[]⟩)).set 2 (.slice none 0 0)).set 3 (.slice none 0 0)).set 4 (.slice none 0 0)).set 5 (.slice none 0 0)).set 6 (.int .i64 0)).set 7 (.int .i64 0)).set 8 (.bool false)).set 9 (.int .i64 0)
  have r0 := A.cell 0
  have r1 := A.cell 1
  have r2 := A.cell 2
  have r3 := A.cell 3
  have r4 := A.cell 4
  have r5 := A.cell 5
  have r6 := A.cell 6
  have r7 := A.cell 7
  have r8 := A.cell 8
  have r9 := A.cell 9
  have hlow : B ≤ w.heap.size := Hlow.out
  exact bodyPost_ret (v := .tuple #[noInfo, .int .i64 61]) (by simp [results, Tryz.results8, go_sem, r0, r1, r2, r3, r4, r5, r6, r7, r8, r9, noInfo]) rfl ⟨rfl, HbW.out.trans A.below⟩
set_option maxRecDepth 100000 in
set_option maxHeartbeats 4000000 in
theorem info_some_b (B T M : Nat) (bl : ByteArray → Nat) (L : List PR) (id : ByteArray) (w : World) (p : PR) (h : TabAt w B T M bl L) (hid : id.size ≤ maxLen) (hF : Fine p) (hg : get L id = some p) :
    Calls Tryz.prog 8 #[ptr T, .string id] w fun e w' => ∃ x y z v, e = .returned (.tuple #[infoV p x y z v, .int .i64 0]) ∧ IntsAt w' x p.S ∧ IntsAt w' y p.I ∧ IntsAt w' z p.Plus ∧ IntsAt w' v p.Minus ∧ Below w.heap.size w w' := by
  obtain ⟨hpL, hpid⟩ := get_mem hg
  obtain ⟨O, hO⟩ : ∃ O, O = Obj.cells #[.string ⟨#[]⟩, .string ⟨#[]⟩, .slice none 0 0, .slice none 0 0, .slice none 0 0, .slice none 0 0, .int .i64 0, .int .i64 0, .bool false, .int .i64 0] 38 := ⟨_, rfl⟩
  obtain ⟨W, hW⟩ : ∃ W, W = w.alloc O := ⟨_, rfl⟩
  have bW : Below w.heap.size w W := by rw [hW]; exact (Below.refl _ _).alloc (Nat.le_refl _) _
  have hsW : W.heap.size = w.heap.size + 1 := by rw [hW]; simp
  have hT := h.below bW
  have hrun := hT.lookup id hid
  unfold ptrOf at hrun
  rw [hg] at hrun
  simp only at hrun
  have cT := hT.cellT
  obtain ⟨vS, vI, vP, vM, hp⟩ := hT.procs p hpL
  obtain ⟨ao0, m0, q0, hv0⟩ := hp.hS.shape3
  obtain ⟨ao1, m1, q1, hv1⟩ := hp.hI.shape3
  obtain ⟨ao2, m2, q2, hv2⟩ := hp.hP.shape3
  obtain ⟨ao3, m3, q3, hv3⟩ := hp.hM.shape3
  subst hv0 hv1 hv2 hv3
  have k0 : W.cell? ⟨bl p.id, 0, none⟩ = some (.string p.id) := hp.cell 0
  have k1 : W.cell? ⟨bl p.id, 1, none⟩ = some (.string p.par) := hp.cell 1
  have k2 : W.cell? ⟨bl p.id, 2, none⟩ = some (.slice ao0 m0 q0) := hp.cell 2
  have k3 : W.cell? ⟨bl p.id, 3, none⟩ = some (.slice ao1 m1 q1) := hp.cell 3
  have k4 : W.cell? ⟨bl p.id, 4, none⟩ = some (.slice ao2 m2 q2) := hp.cell 4
  have k5 : W.cell? ⟨bl p.id, 5, none⟩ = some (.slice ao3 m3 q3) := hp.cell 5
  have k6 : W.cell? ⟨bl p.id, 6, none⟩ = some (.int .i64 p.share) := hp.cell 6
  have k7 : W.cell? ⟨bl p.id, 7, none⟩ = some (.int .i64 p.status) := hp.cell 7
  have k8 : W.cell? ⟨bl p.id, 8, none⟩ = some (.bool p.exited) := hp.cell 8
  have k9 : W.cell? ⟨bl p.id, 9, none⟩ = some (.int .i64 p.forks) := hp.cell 9
  have HT := Lib.hid hT
  have HbW := Lib.hid bW
  have Hlow : Hid (B ≤ w.heap.size) := Nat.le_trans h.lowT (Nat.le_of_lt h.ltT)
  have HLO : Hid (Base.lo ≤ w.heap.size) := Nat.le_trans h.lowB Hlow.out
  have HP := Lib.hid hp
  have HgW := Lib.hid (hT.ltP hpL)
  have HsW := Lib.hid hsW
  have HO := Lib.hid hO
  have HW := Lib.hid hW
  unfold ptr at *
  obtain ⟨g, hgb⟩ : ∃ g, g = bl p.id := ⟨_, rfl⟩
  rw [← hgb] at hrun k0 k1 k2 k3 k4 k5 k6 k7 k8 k9
  have HG := Lib.hid hgb
  clear hT h hg bW hp hsW hgb
  go_enter Tryz.func8, Tryz.ntmps8
  go_upto_region 1 with (fail)
  rw [← hO, ← hW]
  clear hO hW
  go_upto_region 5 with (fail)
  obtain ⟨cs, hcs⟩ : ∃ cs : Array Value, cs = #[Value.string id, Value.string p.par, Value.slice ao0 m0 q0, Value.slice ao1 m1 q1, Value.slice ao2 m2 q2, Value.slice ao3 m3 q3, Value.int .i64 p.share, Value.int .i64 p.status, Value.bool p.exited, Value.int .i64 p.forks] := ⟨_, rfl⟩
  obtain ⟨W7, hW7⟩ : ∃ W7, W7 = W.alloc (.cells cs 38) := ⟨_, rfl⟩
  rw [← hcs, ← hW7]
  have b7 : Below W.heap.size W W7 := by rw [hW7]; exact (Below.refl _ _).alloc (Nat.le_refl _) _
  have s7 : W7.heap.size = W.heap.size + 1 := by rw [hW7]; simp
  have row7 : W7.heap[W.heap.size]? = some (.cells cs 38 (0, 0)) := by rw [hW7]; exact heap_alloc_new _ _
  have row4 : W7.heap[w.heap.size]? = some O := by
    rw [b7.block _ (by rw [HsW.out]; omega), HW.out]
    rw [HO.out]
    exact heap_alloc_new w (.cells _ 38)
  have HCS := Lib.hid hcs
  have hI : Hid (∀ W', Below W7.heap.size W7 W' → IntsAt W' (.slice ao0 m0 q0) p.S ∧ IntsAt W' (.slice ao1 m1 q1) p.I ∧ IntsAt W' (.slice ao2 m2 q2) p.Plus ∧ IntsAt W' (.slice ao3 m3 q3) p.Minus) := fun W' k =>
    have k3 := (Keep3.of_below b7).trans (Keep3.of_below k)
    ⟨HP.out.hS.keep k3, HP.out.hI.keep k3, HP.out.hP.keep k3, HP.out.hM.keep k3⟩
  have HS : Hid (∀ w', Below W.heap.size W7 w' → Below W.heap.size W7 w' ∧ w'.cell? ⟨g, 2, none⟩ = some (.slice ao0 m0 q0) ∧ w'.cell? ⟨g, 3, none⟩ = some (.slice ao1 m1 q1) ∧ w'.cell? ⟨g, 4, none⟩ = some (.slice ao2 m2 q2) ∧ w'.cell? ⟨g, 5, none⟩ = some (.slice ao3 m3 q3)) := fun w' k =>
    have hlt : g < W.heap.size := by rw [HG.out]; exact HgW.out
    have f := fun i => (b7.trans k).cell (p := ⟨g, i, none⟩) hlt
    ⟨k, (f 2).trans k2, (f 3).trans k3, (f 4).trans k4, (f 5).trans k5⟩
  have HD : Hid (Below W7.heap.size W7 W7.drew) := ⟨rfl, rfl, rfl, Nat.le_refl _, fun _ _ => rfl⟩
  have hle : Hid (W.heap.size ≤ W7.heap.size) := by show _ ≤ _; omega
  have R7 : Hid (∀ W', Below W7.heap.size W7 W' → W'.heap[W.heap.size]? = some (.cells cs 38 (0, 0))) := fun W' k => by rw [k.block _ (by omega)]; exact row7
  have R4 : Hid (∀ W', Below W7.heap.size W7 W' → W'.heap[w.heap.size]? = some O) := fun W' k => by rw [k.block _ (by rw [s7, HsW.out]; omega)]; exact row4
  have HB7 := Lib.hid b7
  clear hW7 b7 s7 row7 row4 hcs k0 k1 k2 k3 k4 k5 k6 k7 k8 k9 hrun cT
  obtain ⟨G0⟩ : Nonempty Nat := ⟨0⟩
  go_region_held3 (fun w' => Below W.heap.size W7 w' ∧ w'.cell? ⟨g, 2, none⟩ = some (.slice ao0 m0 q0) ∧ w'.cell? ⟨g, 3, none⟩ = some (.slice ao1 m1 q1) ∧ w'.cell? ⟨g, 4, none⟩ = some (.slice ao2 m2 q2) ∧ w'.cell? ⟨g, 5, none⟩ = some (.slice ao3 m3 q3)) (first | exact HS.out _ (HD.out.mono hle.out) | exact HS.out _ (S1.out.mono hle.out) | exact HS.out _ (S2.out.mono hle.out) | exact HS.out _ (((((S2.out.mono hle.out).setCell (by simp) _).setCell (by simp) _).setCell (by simp) _).setCell (by simp) _) | exact HS.out _ (((S2.out.mono hle.out).setCell (by simp) _).setCell (by simp) _) | go_keep) ((first
    | (go_at_call 25; have G1 := G0; clear G0; refine (twin_any _ _ p.S p.I _ (hI.out _ HD.out).1 (hI.out _ HD.out).2.1 hF.lS hF.lI).mono ?_; rintro e w3 ⟨x1, y1, rfl, i1, i2, b1⟩; have S1 : Hid (Below W7.heap.size W7 w3) := HD.out.trans (b1.mono HD.out.size); obtain ⟨ao4, m4, q4, rfl⟩ := i1.shape3; obtain ⟨ao5, m5, q5, rfl⟩ := i2.shape3)
    | (go_at_call 26; have G2 := G1; clear G1; refine (caps_any _ _ p.Plus p.Minus _ (hI.out _ S1.out).2.2.1 (hI.out _ S1.out).2.2.2 hF.lP hF.lM).mono ?_; rintro e w4 ⟨x2, y2, rfl, i3, i4, b2⟩; have S2 : Hid (Below W7.heap.size W7 w4) := S1.out.trans (b2.mono S1.out.size); obtain ⟨ao6, m6, q6, rfl⟩ := i3.shape3; obtain ⟨ao7, m7, q7, rfl⟩ := i4.shape3; have rw7 := R7.out w4 S2.out; have e2 := cell_of_row w4 W.heap.size 2 _ 38 (0, 0) rw7; have e3 := cell_of_row w4 W.heap.size 3 _ 38 (0, 0) rw7; have e4 := cell_of_row w4 W.heap.size 4 _ 38 (0, 0) rw7; have e5 := cell_of_row w4 W.heap.size 5 _ 38 (0, 0) rw7; have f2 := frozen_of_row w4 W.heap.size 2 _ 38 rw7; have f3 := frozen_of_row w4 W.heap.size 3 _ 38 rw7; have f4 := frozen_of_row w4 W.heap.size 4 _ 38 rw7; have f5 := frozen_of_row w4 W.heap.size 5 _ 38 rw7; rw [HCS.out] at e2 e3 e4 e5; simp only [List.getElem?_toArray, List.getElem?_cons_succ, List.getElem?_cons_zero] at e2 e3 e4 e5)))
  all_goals
    obtain ⟨W8, hW8⟩ : ∃ W8, W8 = ((((w4.setCell ⟨W.heap.size, 2, none⟩ (.slice ao4 m4 q4)).setCell ⟨W.heap.size, 3, none⟩ (.slice ao5 m5 q5)).setCell ⟨W.heap.size, 4, none⟩ (.slice ao6 m6 q6)).setCell ⟨W.heap.size, 5, none⟩ (.slice ao7 m7 q7)) := ⟨_, rfl⟩
    rw [HCS.out] at rw7
    have A7 := ((((AtT.start rw7).set 2 (.slice ao4 m4 q4)).set 3 (.slice ao5 m5 q5)).set 4 (.slice ao6 m6 q6)).set 5 (.slice ao7 m7 q7)
    rw [← hW8] at A7
    rw [← hW8]
    clear hW8 e2 e3 e4 e5 f2 f3 f4 f5
    have u0 : W8.cell? ⟨W.heap.size, 0, none⟩ = some (.string id) := A7.cell 0
    have u1 : W8.cell? ⟨W.heap.size, 1, none⟩ = some (.string p.par) := A7.cell 1
    have u2 : W8.cell? ⟨W.heap.size, 2, none⟩ = some (.slice ao4 m4 q4) := A7.cell 2
    have u3 : W8.cell? ⟨W.heap.size, 3, none⟩ = some (.slice ao5 m5 q5) := A7.cell 3
    have u4 : W8.cell? ⟨W.heap.size, 4, none⟩ = some (.slice ao6 m6 q6) := A7.cell 4
    have u5 : W8.cell? ⟨W.heap.size, 5, none⟩ = some (.slice ao7 m7 q7) := A7.cell 5
    have u6 : W8.cell? ⟨W.heap.size, 6, none⟩ = some (.int .i64 p.share) := A7.cell 6
    have u7 : W8.cell? ⟨W.heap.size, 7, none⟩ = some (.int .i64 p.status) := A7.cell 7
    have u8 : W8.cell? ⟨W.heap.size, 8, none⟩ = some (.bool p.exited) := A7.cell 8
    have u9 : W8.cell? ⟨W.heap.size, 9, none⟩ = some (.int .i64 p.forks) := A7.cell 9
    have row4 : W8.heap[w.heap.size]? = some O := (A7.far _ (by rw [HsW.out]; omega)).trans (R4.out w4 S2.out)
    rw [HO.out] at row4
    have q := fun i => cell_of_row W8 w.heap.size i _ 38 (0, 0) row4
    have z0 : W8.cell? ⟨w.heap.size, 0, none⟩ = some (.string ⟨#[]⟩) := q 0
    have z1 : W8.cell? ⟨w.heap.size, 1, none⟩ = some (.string ⟨#[]⟩) := q 1
    have z2 : W8.cell? ⟨w.heap.size, 2, none⟩ = some (.slice none 0 0) := q 2
    have z3 : W8.cell? ⟨w.heap.size, 3, none⟩ = some (.slice none 0 0) := q 3
    have z4 : W8.cell? ⟨w.heap.size, 4, none⟩ = some (.slice none 0 0) := q 4
    have z5 : W8.cell? ⟨w.heap.size, 5, none⟩ = some (.slice none 0 0) := q 5
    have z6 : W8.cell? ⟨w.heap.size, 6, none⟩ = some (.int .i64 0) := q 6
    have z7 : W8.cell? ⟨w.heap.size, 7, none⟩ = some (.int .i64 0) := q 7
    have z8 : W8.cell? ⟨w.heap.size, 8, none⟩ = some (.bool false) := q 8
    have z9 : W8.cell? ⟨w.heap.size, 9, none⟩ = some (.int .i64 0) := q 9
    have hfr : ∀ i, W8.frozen? ⟨w.heap.size, i, none⟩ = false := fun i => frozen_of_row W8 w.heap.size i _ 38 row4
    clear q
    go_wp2
    have A4 := ((((((((((AtT.start row4).set 0 (.string id)).set 1 (.string p.par)).set 2 (.slice ao4 m4 q4)).set 3 (.slice ao5 m5 q5)).set 4 (.slice ao6 m6 q6)).set 5 (.slice ao7 m7 q7)).set 6 (.int .i64 p.share)).set 7 (.int .i64 p.status)).set 8 (.bool p.exited)).set 9 (.int .i64 p.forks)
    have r0 := A4.cell 0
    have r1 := A4.cell 1
    have r2 := A4.cell 2
    have r3 := A4.cell 3
    have r4 := A4.cell 4
    have r5 := A4.cell 5
    have r6 := A4.cell 6
    have r7 := A4.cell 7
    have r8 := A4.cell 8
    have r9 := A4.cell 9
    have kk := (A7.keep3 (by decide) (by have := HLO.out; have := HsW.out; omega)).trans (A4.keep3 (by decide) (by have := HLO.out; have := HsW.out; omega))
    have j1 := (Keep3.of_below b2).trans kk
    have hlow := Hlow.out
    have hw4 : Below w.heap.size w w4 := HbW.out.trans ((HB7.out.mono (by rw [HsW.out]; omega)).trans (S2.out.mono (by have := hle.out; rw [HsW.out] at this; omega)))
    have hT4 := (HT.out.below HB7.out).below S2.out
    exact bodyPost_ret (v := .tuple #[infoV p (.slice ao4 m4 q4) (.slice ao5 m5 q5) (.slice ao6 m6 q6) (.slice ao7 m7 q7), .int .i64 0]) (by simp [results, Tryz.results8, go_sem, r0, r1, r2, r3, r4, r5, r6, r7, r8, r9, infoV, hpid]) rfl
      ⟨_, _, _, _, rfl, i1.keep j1, i2.keep j1, i3.keep kk, i4.keep kk, (hw4.trans (A7.below.mono (by rw [HsW.out]; omega))).trans A4.below⟩
end Go.Proofs.YtmphnoabkmoafaaGreatDoor
