/- Give. -/
import Derived.Test.YtmphnoabkmoafaaGreatDoorM21
import Derived.Test.YtmphnoabkmoafaaGreatDoorM32
namespace Go.Proofs.YtmphnoabkmoafaaGreatDoor
open Go.RowKit Go.Maps
set_option linter.unusedVariables false
variable {uu0 : Unit} [Base uu0]
set_option maxRecDepth 100000 in
theorem give_no (B T M : Nat) (bl : ByteArray → Nat) (L : List PR) (id : ByteArray) (vS vI : Value) (w : World) (h : TabAt w B T M bl L) (hid : id.size ≤ maxLen) (hc : ofCode L id ≠ 0) :
    Calls Tryz.prog 33 #[ptr T, .string id, .agg #[vS, vI]] w fun e w' => e = .returned (.int .i64 (ofCode L id)) ∧ TabAt w' B T M bl L ∧ Bel B w w' := by
  obtain ⟨W, hW⟩ : ∃ W, W = w.alloc (.cells #[vS, vI] 34) := ⟨_, rfl⟩
  have bW : Below w.heap.size w W := by rw [hW]; exact (Below.refl _ _).alloc (Nat.le_refl _) _
  have hBw : B ≤ w.heap.size := by have := h.lowT; have := h.ltT; omega
  have hTW := h.below bW
  have ho := of_any B T M bl L id W hTW hid
  rcases of_cases bl L id with ⟨p, hg, hx, e1, e2⟩ | ⟨e1, e2, e3⟩
  · exact absurd e2 hc
  · rw [e1] at ho
    have HT := Lib.hid hTW
    have HB := Lib.hid (bW.bel hBw)
    clear h hTW bW e1 e2 e3
    generalize ofCode L id = c at *
    unfold ptr at *
    go_enter Tryz.func33, Tryz.ntmps33
    go_upto_region 1 with (fail)
    rw [← hW]
    clear hW
    go_wp2_with (go_at_call 23; refine ho.mono ?_; rintro e w1 ⟨rfl, rfl⟩)
    go_ret
    exact ⟨rfl, HT.out, HB.out⟩
set_option maxRecDepth 100000 in
theorem give_arg (B T M : Nat) (bl : ByteArray → Nat) (L : List PR) (id : ByteArray) (vS vI : Value) (lS lI : List Int) (w : World) (p : PR) (h : TabAt w B T M bl L) (hid : id.size ≤ maxLen) (hg : get L id = some p) (hx : p.exited = false)
    (hS : IntsAt w vS lS) (hI : IntsAt w vI lI) (nS : lS.length ≤ 17592186043904) (nI : lI.length ≤ 17592186043904) (hm : (setL lS && setL lI) = false) :
    Calls Tryz.prog 33 #[ptr T, .string id, .agg #[vS, vI]] w fun e w' => e = .returned (.int .i64 1) ∧ TabAt w' B T M bl L ∧ Bel B w w' := by
  obtain ⟨sS, mS, cS, rfl⟩ := hS.shape3
  obtain ⟨sI, mI, cI, rfl⟩ := hI.shape3
  obtain ⟨W, hW⟩ : ∃ W, W = w.alloc (.cells #[.slice sS mS cS, .slice sI mI cI] 34) := ⟨_, rfl⟩
  have bW : Below w.heap.size w W := by rw [hW]; exact (Below.refl _ _).alloc (Nat.le_refl _) _
  have hBw : B ≤ w.heap.size := by have := h.lowT; have := h.ltT; omega
  have hTW := h.below bW
  have row : W.heap[w.heap.size]? = some (.cells #[.slice sS mS cS, .slice sI mI cI] 34 (0, 0)) := by rw [hW]; exact heap_alloc_new w _
  have x0 : W.cell? ⟨w.heap.size, 0, none⟩ = some (.slice sS mS cS) := by rw [cell_of_row _ _ 0 _ 34 (0, 0) row]; rfl
  have x1 : W.cell? ⟨w.heap.size, 1, none⟩ = some (.slice sI mI cI) := by rw [cell_of_row _ _ 1 _ 34 (0, 0) row]; rfl
  have ho := of_any B T M bl L id W hTW hid
  obtain ⟨e1, e2⟩ := of_live (bl := bl) hg hx
  rw [e1, e2] at ho
  have k1 := sets_any _ _ lS lI W (hS.below bW (Nat.le_refl _)) (hI.below bW (Nat.le_refl _)) nS nI
  rw [hm] at k1
  have K1 := Lib.hid k1
  have HT := Lib.hid hTW
  have HB := Lib.hid (bW.bel hBw)
  have HBW : Hid (B ≤ W.heap.size) := Nat.le_trans hBw bW.size
  obtain ⟨bx, hbx⟩ : ∃ bx, bx = w.heap.size := ⟨_, rfl⟩
  rw [← hbx] at x0 x1
  clear hS hI k1 hTW bW h e1 e2 hg hm hx hBw row
  unfold ptr at *
  generalize bl p.id = g at *
  go_enter Tryz.func33, Tryz.ntmps33
  go_upto_region 1 with (fail)
  rw [← hW, ← hbx]
  clear hW hbx
  go_wp2_with (first
    | (go_at_call 23; refine ho.mono ?_; rintro e w1 ⟨rfl, rfl⟩)
    | (go_at_call 66; refine K1.out.mono ?_; rintro e w2 ⟨rfl, b2⟩))
  go_ret
  exact ⟨rfl, HT.out.below b2, HB.out.trans (b2.bel HBW.out)⟩
set_option maxRecDepth 100000 in
set_option maxHeartbeats 2000000 in
theorem give_ok (B T M : Nat) (bl : ByteArray → Nat) (L : List PR) (id : ByteArray) (uP uM : Value) (lP lM : List Int) (w : World) (p : PR) (h : TabAt w B T M bl L) (hF : Fine p) (hid : id.size ≤ maxLen) (hg : get L id = some p) (hx : p.exited = false)
    (hP : IntsAt w uP lP) (hM : IntsAt w uM lM) (nP : lP.length ≤ 17592186043904) (nM : lM.length ≤ 17592186043904) (hm : (setL lP && setL lM) = true) (hok : (joinOk p.Plus lP && joinOk p.Minus lM) = true) :
    Calls Tryz.prog 33 #[ptr T, .string id, .agg #[uP, uM]] w fun e w' => e = .returned (.int .i64 0) ∧ TabAt w' B T M bl (updP (moreP p lP lM) L) ∧ Bel B w w' := by
  obtain ⟨hpL, hpid⟩ := get_mem hg
  obtain ⟨sS, mS, cS, rfl⟩ := hP.shape3
  obtain ⟨sI, mI, cI, rfl⟩ := hM.shape3
  obtain ⟨W, hW⟩ : ∃ W, W = w.alloc (.cells #[.slice sS mS cS, .slice sI mI cI] 34) := ⟨_, rfl⟩
  have bW : Below w.heap.size w W := by rw [hW]; exact (Below.refl _ _).alloc (Nat.le_refl _) _
  have hBw : B ≤ w.heap.size := by have := h.lowT; have := h.ltT; omega
  have hTW := h.below bW
  have ho := of_any B T M bl L id W hTW hid
  obtain ⟨e1, e2⟩ := of_live (bl := bl) hg hx
  rw [e1, e2] at ho
  obtain ⟨vS, vI, vP, vM, hp⟩ := hTW.procs p hpL
  obtain ⟨ao2, m2, q2, hv2⟩ := hp.hP.shape3
  obtain ⟨ao3, m3, q3, hv3⟩ := hp.hM.shape3
  subst hv2 hv3
  have hgW : bl p.id < W.heap.size := hTW.ltP hpL
  have hXP := hP.below bW (Nat.le_refl _)
  have hXM := hM.below bW (Nat.le_refl _)
  have hbxl : w.heap.size < W.heap.size := by rw [hW]; simp
  have k1 := sets_any _ _ lP lM W hXP hXM nP nM
  rw [hm] at k1
  have row : W.heap[w.heap.size]? = some (.cells #[.slice sS mS cS, .slice sI mI cI] 34 (0, 0)) := by rw [hW]; exact heap_alloc_new w _
  have x0 : W.cell? ⟨w.heap.size, 0, none⟩ = some (.slice sS mS cS) := by rw [cell_of_row _ _ 0 _ 34 (0, 0) row]; rfl
  have x1 : W.cell? ⟨w.heap.size, 1, none⟩ = some (.slice sI mI cI) := by rw [cell_of_row _ _ 1 _ 34 (0, 0) row]; rfl
  have c4 : W.cell? ⟨bl p.id, 4, none⟩ = some (.slice ao2 m2 q2) := hp.cell 4
  have c5 : W.cell? ⟨bl p.id, 5, none⟩ = some (.slice ao3 m3 q3) := hp.cell 5
  have HC : Hid (∀ W', Below W.heap.size W W' → W'.cell? ⟨bl p.id, 4, none⟩ = some (.slice ao2 m2 q2) ∧ W'.cell? ⟨bl p.id, 5, none⟩ = some (.slice ao3 m3 q3) ∧ W'.cell? ⟨w.heap.size, 0, none⟩ = some (.slice sS mS cS) ∧ W'.cell? ⟨w.heap.size, 1, none⟩ = some (.slice sI mI cI)) := fun W' k =>
    ⟨(k.cell (p := ⟨bl p.id, 4, none⟩) hgW).trans c4, (k.cell (p := ⟨bl p.id, 5, none⟩) hgW).trans c5, (k.cell (p := ⟨w.heap.size, 0, none⟩) hbxl).trans x0, (k.cell (p := ⟨w.heap.size, 1, none⟩) hbxl).trans x1⟩
  have KK : Hid (∀ W', Below W.heap.size W W' → Calls Tryz.prog 72 #[.agg #[.slice ao2 m2 q2, .slice ao3 m3 q3], .agg #[.slice sS mS cS, .slice sI mI cI]] W' fun e w' => ∃ x y, e = .returned (.tuple #[.agg #[x, y], .bool true]) ∧ IntsAt w' x (onlyIf true (joinL p.Plus lP)) ∧ IntsAt w' y (onlyIf true (joinL p.Minus lM)) ∧ Below W'.heap.size W' w') := fun W' k => by
    have := more_any _ _ _ _ p.Plus p.Minus lP lM W' (hp.hP.below k (Nat.le_refl _)) (hp.hM.below k (Nat.le_refl _)) (hXP.below k (Nat.le_refl _)) (hXM.below k (Nat.le_refl _)) hF.lP hF.lM nP nM
    rw [hok] at this
    exact this
  have K1 := Lib.hid k1
  have HT := Lib.hid hTW
  have HPW := Lib.hid hp
  have HB := Lib.hid (bW.bel hBw)
  have HBW : Hid (B ≤ W.heap.size) := Nat.le_trans hBw bW.size
  have HgW := Lib.hid hgW
  have HpL := Lib.hid hpL
  have HXL := Lib.hid hbxl
  obtain ⟨bx, hbx⟩ : ∃ bx, bx = w.heap.size := ⟨_, rfl⟩
  rw [← hbx] at HC HXL x0 x1
  clear hP hM k1 hTW hp bW h e1 e2 hF hg hm hx hpid hgW hBw hXP hXM hbxl row hok hpL
  unfold ptr at *
  obtain ⟨g, hgb⟩ : ∃ g, g = bl p.id := ⟨_, rfl⟩
  rw [← hgb] at ho HC HgW HPW c4 c5
  have HGB := Lib.hid hgb
  clear hgb
  go_enter Tryz.func33, Tryz.ntmps33
  go_upto_region 1 with (fail)
  rw [← hW, ← hbx]
  clear hW hbx
  go_wp2_with (first
    | (go_at_call 23; refine ho.mono ?_; rintro e w1 ⟨rfl, rfl⟩)
    | (go_at_call 66; refine K1.out.mono ?_; rintro e w2 ⟨rfl, b2⟩))
  have B2 := Lib.hid b2
  have hlt : g < w2.heap.size := Nat.lt_of_lt_of_le HgW.out b2.size
  have hbl : bx < w2.heap.size := Nat.lt_of_lt_of_le HXL.out b2.size
  clear c4 c5 x0 x1
  obtain ⟨c4, c5, x0, x1⟩ := HC.out w2 b2
  have c4' : w2.drew.cell? ⟨g, 4, none⟩ = some (.slice ao2 m2 q2) := c4
  have c5' : w2.drew.cell? ⟨g, 5, none⟩ = some (.slice ao3 m3 q3) := c5
  have x0' : w2.drew.cell? ⟨bx, 0, none⟩ = some (.slice sS mS cS) := x0
  have x1' : w2.drew.cell? ⟨bx, 1, none⟩ = some (.slice sI mI cI) := x1
  have K2 : Hid (∀ W', Below w2.heap.size w2 W' → Calls Tryz.prog 72 #[.agg #[.slice ao2 m2 q2, .slice ao3 m3 q3], .agg #[.slice sS mS cS, .slice sI mI cI]] W' fun e w' => ∃ x y, e = .returned (.tuple #[.agg #[x, y], .bool true]) ∧ IntsAt w' x (onlyIf true (joinL p.Plus lP)) ∧ IntsAt w' y (onlyIf true (joinL p.Minus lM)) ∧ Below W'.heap.size W' w') := fun W' k => KK.out W' (B2.out.trans (k.mono B2.out.size))
  have HP : Hid (ProcAt w2 g p vS vI (.slice ao2 m2 q2) (.slice ao3 m3 q3)) := HPW.out.keep (Keep3.of_below b2) (b2.block _ HgW.out)
  have HT2 := Lib.hid (HT.out.below b2)
  have HB2 := Lib.hid (HB.out.trans (b2.bel HBW.out))
  have HBW2 : Hid (B ≤ w2.heap.size) := Nat.le_trans HBW.out b2.size
  have HL := Lib.hid hlt
  have HD : Hid (Below w2.heap.size w2 w2.drew) := (Below.refl _ _).drew
  have HA : Hid (∀ o : Obj, Below w2.heap.size w2 (w2.alloc o).drew) := fun o => ((Below.refl _ _).alloc (Nat.le_refl _) o).drew
  have HA2 : Hid (∀ o : Obj, Below w2.heap.size w2 (w2.drew.alloc o)) := fun o => ((Below.refl _ _).drew.alloc (Nat.le_refl _) o)
  have HS : Hid (∀ w', Below w2.heap.size w2 w' → Below w2.heap.size w2 w' ∧ w'.cell? ⟨g, 4, none⟩ = some (.slice ao2 m2 q2) ∧ w'.cell? ⟨g, 5, none⟩ = some (.slice ao3 m3 q3) ∧ w'.cell? ⟨bx, 0, none⟩ = some (.slice sS mS cS) ∧ w'.cell? ⟨bx, 1, none⟩ = some (.slice sI mI cI)) := fun w' k =>
    ⟨k, (k.cell (p := ⟨g, 4, none⟩) hlt).trans c4, (k.cell (p := ⟨g, 5, none⟩) hlt).trans c5, (k.cell (p := ⟨bx, 0, none⟩) hbl).trans x0, (k.cell (p := ⟨bx, 1, none⟩) hbl).trans x1⟩
  clear hlt hbl b2 HT HPW HB
  go_region_held3 (fun w' => Below w2.heap.size w2 w' ∧ w'.cell? ⟨g, 4, none⟩ = some (.slice ao2 m2 q2) ∧ w'.cell? ⟨g, 5, none⟩ = some (.slice ao3 m3 q3) ∧ w'.cell? ⟨bx, 0, none⟩ = some (.slice sS mS cS) ∧ w'.cell? ⟨bx, 1, none⟩ = some (.slice sI mI cI)) (first | exact HS.out _ HD.out | exact HS.out _ S3.out | exact HS.out _ (S3.out.alloc S3.out.size _) | exact HS.out _ (HA.out _) | exact HS.out _ (HA2.out _) | exact HS.out _ ((S3.out.setCell (p := ⟨w2.heap.size, 0, none⟩) (Nat.le_refl _) _).setCell (p := ⟨w2.heap.size, 1, none⟩) (Nat.le_refl _) _) | go_keep) ((go_at_call 72; refine (K2.out _ (by first | exact HD.out | exact Below.refl _ _ | exact HA.out _ | exact HA2.out _)).mono ?_; rintro e w3 ⟨u1, u2, rfl, i1, i2, b3⟩; obtain ⟨ao4, m4, q4, rfl⟩ := i1.shape3; obtain ⟨ao5, m5, q5, rfl⟩ := i2.shape3; have S3 : Hid (Below w2.heap.size w2 w3) := (by first | exact HD.out.trans (b3.mono HD.out.size) | exact b3 | exact (HA.out _).trans (b3.mono (HA.out _).size) | exact (HA2.out _).trans (b3.mono (HA2.out _).size)); try (have rw3 : w3.heap[w2.heap.size]? = some (.cells #[.slice none 0 0, .slice none 0 0] 34 (0, 0)) := (by first | exact (b3.block _ (by simp)).trans (heap_alloc_new w2.drew _) | exact (b3.block _ (by simp)).trans (heap_alloc_new w2 _)); have AA := Lib.hid (((AtT.start rw3).set 0 (.slice ao4 m4 q4)).set 1 (.slice ao5 m5 q5)); have z0 : w3.cell? ⟨w2.heap.size, 0, none⟩ = some (.slice none 0 0) := (AtT.start rw3).cell 0; have y0 : w3.frozen? ⟨w2.heap.size, 0, none⟩ = false := (AtT.start rw3).frozen 0; have z1 : (w3.setCell ⟨w2.heap.size, 0, none⟩ (.slice ao4 m4 q4)).cell? ⟨w2.heap.size, 1, none⟩ = some (.slice none 0 0) := ((AtT.start rw3).set 0 (.slice ao4 m4 q4)).cell 1; have y1 : (w3.setCell ⟨w2.heap.size, 0, none⟩ (.slice ao4 m4 q4)).frozen? ⟨w2.heap.size, 1, none⟩ = false := ((AtT.start rw3).set 0 (.slice ao4 m4 q4)).frozen 1)))
  · obtain ⟨bz, hbz⟩ : ∃ bz, bz = w3.heap.size := ⟨_, rfl⟩
    obtain ⟨W5, hW5⟩ : ∃ W5, W5 = w3.alloc (.cells #[Value.slice ao4 m4 q4, Value.slice ao5 m5 q5] 34) := ⟨_, rfl⟩
    have hal : Below w3.heap.size w3 W5 := by rw [hW5]; exact (Below.refl _ _).alloc (Nat.le_refl _) _
    have hrow : W5.heap[bz]? = some (.cells #[Value.slice ao4 m4 q4, Value.slice ao5 m5 q5] 34 (0, 0)) := by rw [hW5, hbz]; exact heap_alloc_new w3 _
    have hB5 : Below w2.heap.size w2 W5 := S3.out.trans (hal.mono S3.out.size)
    have j1 := i1.below hal (Nat.le_refl _)
    have j2 := i2.below hal (Nat.le_refl _)
    rw [← hW5, ← hbz]
    clear hW5 hbz hal
    have Z0 : W5.cell? ⟨bz, 0, none⟩ = some (.slice ao4 m4 q4) := by rw [cell_of_row W5 bz 0 _ 34 (0, 0) hrow]; rfl
    have Z1 : W5.cell? ⟨bz, 1, none⟩ = some (.slice ao5 m5 q5) := by rw [cell_of_row W5 bz 1 _ 34 (0, 0) hrow]; rfl
    have P5 := Lib.hid (HP.out.keep (Keep3.of_below hB5) (hB5.block _ HL.out))
    have A5 := Lib.hid (At66.start P5.out.row)
    have g4 : W5.frozen? ⟨g, 4, none⟩ = false := P5.out.frozen 4
    have r4 : W5.cell? ⟨g, 4, none⟩ = some (.slice ao2 m2 q2) := P5.out.cell 4
    have g5 : (W5.setCell ⟨g, 4, none⟩ (.slice ao4 m4 q4)).frozen? ⟨g, 5, none⟩ = false := (A5.out.set 4 _).frozen 5
    have r5 : (W5.setCell ⟨g, 4, none⟩ (.slice ao4 m4 q4)).cell? ⟨g, 5, none⟩ = some (.slice ao3 m3 q3) := (A5.out.set 4 _).cell 5
    have J1 := Lib.hid j1
    have J2 := Lib.hid j2
    have HB5 := Lib.hid hB5
    clear hrow hB5 j1 j2 c4 c5 c4' c5' x0' x1' i1 i2 b3
    go_wp2
    have A4 : At66 W5 ((W5.setCell ⟨g, 4, none⟩ (.slice ao4 m4 q4)).setCell ⟨g, 5, none⟩ (.slice ao5 m5 q5)) (bl p.id) ((moreP p lP lM).cells vS vI (.slice ao4 m4 q4) (.slice ao5 m5 q5)) := by rw [← HGB.out]; exact (A5.out.set 4 _).set 5 _
    obtain ⟨hT4, hB4⟩ := (HT2.out.below HB5.out).at66 (p' := moreP p lP lM) HpL.out rfl A4 P5.out.hS P5.out.hI J1.out J2.out
    go_ret
    exact ⟨rfl, hT4, (HB2.out.trans (HB5.out.bel HBW2.out)).trans hB4⟩
  · obtain ⟨bz, hbz⟩ : ∃ bz, bz = w2.heap.size := ⟨_, rfl⟩
    obtain ⟨W5, hW5⟩ : ∃ W5, W5 = (w3.setCell ⟨w2.heap.size, 0, none⟩ (.slice ao4 m4 q4)).setCell ⟨w2.heap.size, 1, none⟩ (.slice ao5 m5 q5) := ⟨_, rfl⟩
    have A3 := AA.out
    rw [← hW5] at A3
    have hrow : W5.heap[bz]? = some (.cells #[Value.slice ao4 m4 q4, Value.slice ao5 m5 q5] 34 (0, 0)) := by rw [hbz]; exact A3.row
    have hB5 : Below w2.heap.size w2 W5 := S3.out.trans A3.below
    have j1 := i1.keep (A3.keep3 (by decide) (Nat.le_trans HT2.out.lowB HBW2.out))
    have j2 := i2.keep (A3.keep3 (by decide) (Nat.le_trans HT2.out.lowB HBW2.out))
    rw [← hW5, ← hbz]
    clear hW5 hbz A3 AA z0 y0 z1 y1 rw3
    have Z0 : W5.cell? ⟨bz, 0, none⟩ = some (.slice ao4 m4 q4) := by rw [cell_of_row W5 bz 0 _ 34 (0, 0) hrow]; rfl
    have Z1 : W5.cell? ⟨bz, 1, none⟩ = some (.slice ao5 m5 q5) := by rw [cell_of_row W5 bz 1 _ 34 (0, 0) hrow]; rfl
    have P5 := Lib.hid (HP.out.keep (Keep3.of_below hB5) (hB5.block _ HL.out))
    have A5 := Lib.hid (At66.start P5.out.row)
    have g4 : W5.frozen? ⟨g, 4, none⟩ = false := P5.out.frozen 4
    have r4 : W5.cell? ⟨g, 4, none⟩ = some (.slice ao2 m2 q2) := P5.out.cell 4
    have g5 : (W5.setCell ⟨g, 4, none⟩ (.slice ao4 m4 q4)).frozen? ⟨g, 5, none⟩ = false := (A5.out.set 4 _).frozen 5
    have r5 : (W5.setCell ⟨g, 4, none⟩ (.slice ao4 m4 q4)).cell? ⟨g, 5, none⟩ = some (.slice ao3 m3 q3) := (A5.out.set 4 _).cell 5
    have J1 := Lib.hid j1
    have J2 := Lib.hid j2
    have HB5 := Lib.hid hB5
    clear hrow hB5 j1 j2 c4 c5 c4' c5' x0' x1' i1 i2 b3
    go_wp2
    have A4 : At66 W5 ((W5.setCell ⟨g, 4, none⟩ (.slice ao4 m4 q4)).setCell ⟨g, 5, none⟩ (.slice ao5 m5 q5)) (bl p.id) ((moreP p lP lM).cells vS vI (.slice ao4 m4 q4) (.slice ao5 m5 q5)) := by rw [← HGB.out]; exact (A5.out.set 4 _).set 5 _
    obtain ⟨hT4, hB4⟩ := (HT2.out.below HB5.out).at66 (p' := moreP p lP lM) HpL.out rfl A4 P5.out.hS P5.out.hI J1.out J2.out
    go_ret
    exact ⟨rfl, hT4, (HB2.out.trans (HB5.out.bel HBW2.out)).trans hB4⟩
set_option maxRecDepth 100000 in
set_option maxHeartbeats 2000000 in
theorem give_many (B T M : Nat) (bl : ByteArray → Nat) (L : List PR) (id : ByteArray) (uP uM : Value) (lP lM : List Int) (w : World) (p : PR) (h : TabAt w B T M bl L) (hF : Fine p) (hid : id.size ≤ maxLen) (hg : get L id = some p) (hx : p.exited = false)
    (hP : IntsAt w uP lP) (hM : IntsAt w uM lM) (nP : lP.length ≤ 17592186043904) (nM : lM.length ≤ 17592186043904) (hm : (setL lP && setL lM) = true) (hok : (joinOk p.Plus lP && joinOk p.Minus lM) = false) :
    Calls Tryz.prog 33 #[ptr T, .string id, .agg #[uP, uM]] w fun e w' => e = .returned (.int .i64 65) ∧ TabAt w' B T M bl L ∧ Bel B w w' := by
  obtain ⟨hpL, hpid⟩ := get_mem hg
  obtain ⟨sS, mS, cS, rfl⟩ := hP.shape3
  obtain ⟨sI, mI, cI, rfl⟩ := hM.shape3
  obtain ⟨W, hW⟩ : ∃ W, W = w.alloc (.cells #[.slice sS mS cS, .slice sI mI cI] 34) := ⟨_, rfl⟩
  have bW : Below w.heap.size w W := by rw [hW]; exact (Below.refl _ _).alloc (Nat.le_refl _) _
  have hBw : B ≤ w.heap.size := by have := h.lowT; have := h.ltT; omega
  have hTW := h.below bW
  have ho := of_any B T M bl L id W hTW hid
  obtain ⟨e1, e2⟩ := of_live (bl := bl) hg hx
  rw [e1, e2] at ho
  obtain ⟨vS, vI, vP, vM, hp⟩ := hTW.procs p hpL
  obtain ⟨ao2, m2, q2, hv2⟩ := hp.hP.shape3
  obtain ⟨ao3, m3, q3, hv3⟩ := hp.hM.shape3
  subst hv2 hv3
  have hgW : bl p.id < W.heap.size := hTW.ltP hpL
  have hXP := hP.below bW (Nat.le_refl _)
  have hXM := hM.below bW (Nat.le_refl _)
  have hbxl : w.heap.size < W.heap.size := by rw [hW]; simp
  have k1 := sets_any _ _ lP lM W hXP hXM nP nM
  rw [hm] at k1
  have row : W.heap[w.heap.size]? = some (.cells #[.slice sS mS cS, .slice sI mI cI] 34 (0, 0)) := by rw [hW]; exact heap_alloc_new w _
  have x0 : W.cell? ⟨w.heap.size, 0, none⟩ = some (.slice sS mS cS) := by rw [cell_of_row _ _ 0 _ 34 (0, 0) row]; rfl
  have x1 : W.cell? ⟨w.heap.size, 1, none⟩ = some (.slice sI mI cI) := by rw [cell_of_row _ _ 1 _ 34 (0, 0) row]; rfl
  have c4 : W.cell? ⟨bl p.id, 4, none⟩ = some (.slice ao2 m2 q2) := hp.cell 4
  have c5 : W.cell? ⟨bl p.id, 5, none⟩ = some (.slice ao3 m3 q3) := hp.cell 5
  have HC : Hid (∀ W', Below W.heap.size W W' → W'.cell? ⟨bl p.id, 4, none⟩ = some (.slice ao2 m2 q2) ∧ W'.cell? ⟨bl p.id, 5, none⟩ = some (.slice ao3 m3 q3) ∧ W'.cell? ⟨w.heap.size, 0, none⟩ = some (.slice sS mS cS) ∧ W'.cell? ⟨w.heap.size, 1, none⟩ = some (.slice sI mI cI)) := fun W' k =>
    ⟨(k.cell (p := ⟨bl p.id, 4, none⟩) hgW).trans c4, (k.cell (p := ⟨bl p.id, 5, none⟩) hgW).trans c5, (k.cell (p := ⟨w.heap.size, 0, none⟩) hbxl).trans x0, (k.cell (p := ⟨w.heap.size, 1, none⟩) hbxl).trans x1⟩
  have KK : Hid (∀ W', Below W.heap.size W W' → Calls Tryz.prog 72 #[.agg #[.slice ao2 m2 q2, .slice ao3 m3 q3], .agg #[.slice sS mS cS, .slice sI mI cI]] W' fun e w' => ∃ x y, e = .returned (.tuple #[.agg #[x, y], .bool false]) ∧ IntsAt w' x (onlyIf false (joinL p.Plus lP)) ∧ IntsAt w' y (onlyIf false (joinL p.Minus lM)) ∧ Below W'.heap.size W' w') := fun W' k => by
    have := more_any _ _ _ _ p.Plus p.Minus lP lM W' (hp.hP.below k (Nat.le_refl _)) (hp.hM.below k (Nat.le_refl _)) (hXP.below k (Nat.le_refl _)) (hXM.below k (Nat.le_refl _)) hF.lP hF.lM nP nM
    rw [hok] at this
    exact this
  have K1 := Lib.hid k1
  have HT := Lib.hid hTW
  have HPW := Lib.hid hp
  have HB := Lib.hid (bW.bel hBw)
  have HBW : Hid (B ≤ W.heap.size) := Nat.le_trans hBw bW.size
  have HgW := Lib.hid hgW
  have HpL := Lib.hid hpL
  have HXL := Lib.hid hbxl
  obtain ⟨bx, hbx⟩ : ∃ bx, bx = w.heap.size := ⟨_, rfl⟩
  rw [← hbx] at HC HXL x0 x1
  clear hP hM k1 hTW hp bW h e1 e2 hF hg hm hx hpid hgW hBw hXP hXM hbxl row hok hpL
  unfold ptr at *
  obtain ⟨g, hgb⟩ : ∃ g, g = bl p.id := ⟨_, rfl⟩
  rw [← hgb] at ho HC HgW HPW c4 c5
  have HGB := Lib.hid hgb
  clear hgb
  go_enter Tryz.func33, Tryz.ntmps33
  go_upto_region 1 with (fail)
  rw [← hW, ← hbx]
  clear hW hbx
  go_wp2_with (first
    | (go_at_call 23; refine ho.mono ?_; rintro e w1 ⟨rfl, rfl⟩)
    | (go_at_call 66; refine K1.out.mono ?_; rintro e w2 ⟨rfl, b2⟩))
  have B2 := Lib.hid b2
  have hlt : g < w2.heap.size := Nat.lt_of_lt_of_le HgW.out b2.size
  have hbl : bx < w2.heap.size := Nat.lt_of_lt_of_le HXL.out b2.size
  clear c4 c5 x0 x1
  obtain ⟨c4, c5, x0, x1⟩ := HC.out w2 b2
  have c4' : w2.drew.cell? ⟨g, 4, none⟩ = some (.slice ao2 m2 q2) := c4
  have c5' : w2.drew.cell? ⟨g, 5, none⟩ = some (.slice ao3 m3 q3) := c5
  have x0' : w2.drew.cell? ⟨bx, 0, none⟩ = some (.slice sS mS cS) := x0
  have x1' : w2.drew.cell? ⟨bx, 1, none⟩ = some (.slice sI mI cI) := x1
  have K2 : Hid (∀ W', Below w2.heap.size w2 W' → Calls Tryz.prog 72 #[.agg #[.slice ao2 m2 q2, .slice ao3 m3 q3], .agg #[.slice sS mS cS, .slice sI mI cI]] W' fun e w' => ∃ x y, e = .returned (.tuple #[.agg #[x, y], .bool false]) ∧ IntsAt w' x (onlyIf false (joinL p.Plus lP)) ∧ IntsAt w' y (onlyIf false (joinL p.Minus lM)) ∧ Below W'.heap.size W' w') := fun W' k => KK.out W' (B2.out.trans (k.mono B2.out.size))
  have HP : Hid (ProcAt w2 g p vS vI (.slice ao2 m2 q2) (.slice ao3 m3 q3)) := HPW.out.keep (Keep3.of_below b2) (b2.block _ HgW.out)
  have HT2 := Lib.hid (HT.out.below b2)
  have HB2 := Lib.hid (HB.out.trans (b2.bel HBW.out))
  have HBW2 : Hid (B ≤ w2.heap.size) := Nat.le_trans HBW.out b2.size
  have HL := Lib.hid hlt
  have HD : Hid (Below w2.heap.size w2 w2.drew) := (Below.refl _ _).drew
  have HA : Hid (∀ o : Obj, Below w2.heap.size w2 (w2.alloc o).drew) := fun o => ((Below.refl _ _).alloc (Nat.le_refl _) o).drew
  have HA2 : Hid (∀ o : Obj, Below w2.heap.size w2 (w2.drew.alloc o)) := fun o => ((Below.refl _ _).drew.alloc (Nat.le_refl _) o)
  have HS : Hid (∀ w', Below w2.heap.size w2 w' → Below w2.heap.size w2 w' ∧ w'.cell? ⟨g, 4, none⟩ = some (.slice ao2 m2 q2) ∧ w'.cell? ⟨g, 5, none⟩ = some (.slice ao3 m3 q3) ∧ w'.cell? ⟨bx, 0, none⟩ = some (.slice sS mS cS) ∧ w'.cell? ⟨bx, 1, none⟩ = some (.slice sI mI cI)) := fun w' k =>
    ⟨k, (k.cell (p := ⟨g, 4, none⟩) hlt).trans c4, (k.cell (p := ⟨g, 5, none⟩) hlt).trans c5, (k.cell (p := ⟨bx, 0, none⟩) hbl).trans x0, (k.cell (p := ⟨bx, 1, none⟩) hbl).trans x1⟩
  clear hlt hbl b2 HT HPW HB
  go_region_held3 (fun w' => Below w2.heap.size w2 w' ∧ w'.cell? ⟨g, 4, none⟩ = some (.slice ao2 m2 q2) ∧ w'.cell? ⟨g, 5, none⟩ = some (.slice ao3 m3 q3) ∧ w'.cell? ⟨bx, 0, none⟩ = some (.slice sS mS cS) ∧ w'.cell? ⟨bx, 1, none⟩ = some (.slice sI mI cI)) (first | exact HS.out _ HD.out | exact HS.out _ S3.out | exact HS.out _ (S3.out.alloc S3.out.size _) | exact HS.out _ (HA.out _) | exact HS.out _ (HA2.out _) | exact HS.out _ ((S3.out.setCell (p := ⟨w2.heap.size, 0, none⟩) (Nat.le_refl _) _).setCell (p := ⟨w2.heap.size, 1, none⟩) (Nat.le_refl _) _) | go_keep) ((go_at_call 72; refine (K2.out _ (by first | exact HD.out | exact Below.refl _ _ | exact HA.out _ | exact HA2.out _)).mono ?_; rintro e w3 ⟨u1, u2, rfl, i1, i2, b3⟩; obtain ⟨ao4, m4, q4, rfl⟩ := i1.shape3; obtain ⟨ao5, m5, q5, rfl⟩ := i2.shape3; have S3 : Hid (Below w2.heap.size w2 w3) := (by first | exact HD.out.trans (b3.mono HD.out.size) | exact b3 | exact (HA.out _).trans (b3.mono (HA.out _).size) | exact (HA2.out _).trans (b3.mono (HA2.out _).size)); try (have rw3 : w3.heap[w2.heap.size]? = some (.cells #[.slice none 0 0, .slice none 0 0] 34 (0, 0)) := (by first | exact (b3.block _ (by simp)).trans (heap_alloc_new w2.drew _) | exact (b3.block _ (by simp)).trans (heap_alloc_new w2 _)); have AA := Lib.hid (((AtT.start rw3).set 0 (.slice ao4 m4 q4)).set 1 (.slice ao5 m5 q5)); have z0 : w3.cell? ⟨w2.heap.size, 0, none⟩ = some (.slice none 0 0) := (AtT.start rw3).cell 0; have y0 : w3.frozen? ⟨w2.heap.size, 0, none⟩ = false := (AtT.start rw3).frozen 0; have z1 : (w3.setCell ⟨w2.heap.size, 0, none⟩ (.slice ao4 m4 q4)).cell? ⟨w2.heap.size, 1, none⟩ = some (.slice none 0 0) := ((AtT.start rw3).set 0 (.slice ao4 m4 q4)).cell 1; have y1 : (w3.setCell ⟨w2.heap.size, 0, none⟩ (.slice ao4 m4 q4)).frozen? ⟨w2.heap.size, 1, none⟩ = false := ((AtT.start rw3).set 0 (.slice ao4 m4 q4)).frozen 1)))
  · obtain ⟨bz, hbz⟩ : ∃ bz, bz = w3.heap.size := ⟨_, rfl⟩
    obtain ⟨W5, hW5⟩ : ∃ W5, W5 = w3.alloc (.cells #[Value.slice ao4 m4 q4, Value.slice ao5 m5 q5] 34) := ⟨_, rfl⟩
    have hal : Below w3.heap.size w3 W5 := by rw [hW5]; exact (Below.refl _ _).alloc (Nat.le_refl _) _
    have hrow : W5.heap[bz]? = some (.cells #[Value.slice ao4 m4 q4, Value.slice ao5 m5 q5] 34 (0, 0)) := by rw [hW5, hbz]; exact heap_alloc_new w3 _
    have hB5 : Below w2.heap.size w2 W5 := S3.out.trans (hal.mono S3.out.size)
    have j1 := i1.below hal (Nat.le_refl _)
    have j2 := i2.below hal (Nat.le_refl _)
    rw [← hW5, ← hbz]
    clear hW5 hbz hal
    have Z0 : W5.cell? ⟨bz, 0, none⟩ = some (.slice ao4 m4 q4) := by rw [cell_of_row W5 bz 0 _ 34 (0, 0) hrow]; rfl
    have Z1 : W5.cell? ⟨bz, 1, none⟩ = some (.slice ao5 m5 q5) := by rw [cell_of_row W5 bz 1 _ 34 (0, 0) hrow]; rfl
    have P5 := Lib.hid (HP.out.keep (Keep3.of_below hB5) (hB5.block _ HL.out))
    have A5 := Lib.hid (At66.start P5.out.row)
    have g4 : W5.frozen? ⟨g, 4, none⟩ = false := P5.out.frozen 4
    have r4 : W5.cell? ⟨g, 4, none⟩ = some (.slice ao2 m2 q2) := P5.out.cell 4
    have g5 : (W5.setCell ⟨g, 4, none⟩ (.slice ao4 m4 q4)).frozen? ⟨g, 5, none⟩ = false := (A5.out.set 4 _).frozen 5
    have r5 : (W5.setCell ⟨g, 4, none⟩ (.slice ao4 m4 q4)).cell? ⟨g, 5, none⟩ = some (.slice ao3 m3 q3) := (A5.out.set 4 _).cell 5
    have J1 := Lib.hid j1
    have J2 := Lib.hid j2
    have HB5 := Lib.hid hB5
    clear hrow hB5 j1 j2 c4 c5 c4' c5' x0' x1' i1 i2 b3
    go_wp2
    go_ret
    exact ⟨rfl, HT2.out.below HB5.out, HB2.out.trans (HB5.out.bel HBW2.out)⟩
  · obtain ⟨bz, hbz⟩ : ∃ bz, bz = w2.heap.size := ⟨_, rfl⟩
    obtain ⟨W5, hW5⟩ : ∃ W5, W5 = (w3.setCell ⟨w2.heap.size, 0, none⟩ (.slice ao4 m4 q4)).setCell ⟨w2.heap.size, 1, none⟩ (.slice ao5 m5 q5) := ⟨_, rfl⟩
    have A3 := AA.out
    rw [← hW5] at A3
    have hrow : W5.heap[bz]? = some (.cells #[Value.slice ao4 m4 q4, Value.slice ao5 m5 q5] 34 (0, 0)) := by rw [hbz]; exact A3.row
    have hB5 : Below w2.heap.size w2 W5 := S3.out.trans A3.below
    have j1 := i1.keep (A3.keep3 (by decide) (Nat.le_trans HT2.out.lowB HBW2.out))
    have j2 := i2.keep (A3.keep3 (by decide) (Nat.le_trans HT2.out.lowB HBW2.out))
    rw [← hW5, ← hbz]
    clear hW5 hbz A3 AA z0 y0 z1 y1 rw3
    have Z0 : W5.cell? ⟨bz, 0, none⟩ = some (.slice ao4 m4 q4) := by rw [cell_of_row W5 bz 0 _ 34 (0, 0) hrow]; rfl
    have Z1 : W5.cell? ⟨bz, 1, none⟩ = some (.slice ao5 m5 q5) := by rw [cell_of_row W5 bz 1 _ 34 (0, 0) hrow]; rfl
    have P5 := Lib.hid (HP.out.keep (Keep3.of_below hB5) (hB5.block _ HL.out))
    have A5 := Lib.hid (At66.start P5.out.row)
    have g4 : W5.frozen? ⟨g, 4, none⟩ = false := P5.out.frozen 4
    have r4 : W5.cell? ⟨g, 4, none⟩ = some (.slice ao2 m2 q2) := P5.out.cell 4
    have g5 : (W5.setCell ⟨g, 4, none⟩ (.slice ao4 m4 q4)).frozen? ⟨g, 5, none⟩ = false := (A5.out.set 4 _).frozen 5
    have r5 : (W5.setCell ⟨g, 4, none⟩ (.slice ao4 m4 q4)).cell? ⟨g, 5, none⟩ = some (.slice ao3 m3 q3) := (A5.out.set 4 _).cell 5
    have J1 := Lib.hid j1
    have J2 := Lib.hid j2
    have HB5 := Lib.hid hB5
    clear hrow hB5 j1 j2 c4 c5 c4' c5' x0' x1' i1 i2 b3
    go_wp2
    go_ret
    exact ⟨rfl, HT2.out.below HB5.out, HB2.out.trans (HB5.out.bel HBW2.out)⟩
end Go.Proofs.YtmphnoabkmoafaaGreatDoor
