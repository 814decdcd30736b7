/- Grant to one that lives, and is seen. -/
import Derived.Test.YtmphnoabkmoafaaGreatDoorM18
import Derived.Test.YtmphnoabkmoafaaGreatDoorM19
import Derived.Test.YtmphnoabkmoafaaGreatDoorM20
import Derived.Deep.RegionHeld3
namespace Go.Proofs.YtmphnoabkmoafaaGreatDoor
open Go.RowKit Go.Maps
set_option linter.unusedVariables false
variable {uu0 : Unit} [Base uu0]
def moreP (q : PR) (lP lM : List Int) : PR := { q with Plus := joinL q.Plus lP, Minus := joinL q.Minus lM }
theorem onlyIf_true (l : List Int) : onlyIf true l = l := rfl
set_option maxRecDepth 100000 in
set_option maxHeartbeats 1000000 in
/-- What Grant does to the one that it reaches. -/
theorem grantdo_any (w : World) (g bx : Nat) (q : PR) (a b c d uP uM : Value) (lP lM : List Int) (hp : ProcAt w g q a b c d) (hF : Fine q) (x0 : w.cell? ⟨bx, 0, none⟩ = some uP) (x1 : w.cell? ⟨bx, 1, none⟩ = some uM) (hP : IntsAt w uP lP) (hM : IntsAt w uM lM) (nP : lP.length ≤ 17592186043904) (nM : lM.length ≤ 17592186043904) (hbl : bx < w.heap.size) (hok : (joinOk q.Plus lP && joinOk q.Minus lM) = true) (hlo : Base.lo ≤ w.heap.size) :
    Calls Tryz.prog 71 #[ptr g, ptr bx] w fun e w' => ∃ w3 x y, e = .returned (.tuple #[]) ∧ Below w.heap.size w w3 ∧ At66 w3 w' g ((moreP q lP lM).cells a b x y) ∧ IntsAt w3 x (moreP q lP lM).Plus ∧ IntsAt w3 y (moreP q lP lM).Minus := by
  obtain ⟨sS, mS, cS, rfl⟩ := hP.shape3
  obtain ⟨sI, mI, cI, rfl⟩ := hM.shape3
  obtain ⟨ao2, m2, q2, hv2⟩ := hp.hP.shape3
  obtain ⟨ao3, m3, q3, hv3⟩ := hp.hM.shape3
  subst hv2 hv3
  have hlt : g < w.heap.size := (Array.getElem?_eq_some_iff.1 hp.row).1
  have c4 : w.cell? ⟨g, 4, none⟩ = some (.slice ao2 m2 q2) := hp.cell 4
  have c5 : w.cell? ⟨g, 5, none⟩ = some (.slice ao3 m3 q3) := hp.cell 5
  have c4' : w.drew.cell? ⟨g, 4, none⟩ = some (.slice ao2 m2 q2) := c4
  have c5' : w.drew.cell? ⟨g, 5, none⟩ = some (.slice ao3 m3 q3) := c5
  have x0' : w.drew.cell? ⟨bx, 0, none⟩ = some (.slice sS mS cS) := x0
  have x1' : w.drew.cell? ⟨bx, 1, none⟩ = some (.slice sI mI cI) := x1
  have k2 : ∀ W', Below w.heap.size w W' → Calls Tryz.prog 72 #[.agg #[.slice ao2 m2 q2, .slice ao3 m3 q3], .agg #[.slice sS mS cS, .slice sI mI cI]] W' fun e w' => ∃ x y, e = .returned (.tuple #[.agg #[x, y], .bool true]) ∧ IntsAt w' x (joinL q.Plus lP) ∧ IntsAt w' y (joinL q.Minus lM) ∧ Below W'.heap.size W' w' := fun W' k => by
    have := more_any _ _ _ _ q.Plus q.Minus lP lM W' (hp.hP.below k (Nat.le_refl _)) (hp.hM.below k (Nat.le_refl _)) (hP.below k (Nat.le_refl _)) (hM.below k (Nat.le_refl _)) hF.lP hF.lM nP nM
    rw [hok] at this
    exact this
  have K2 := Lib.hid k2
  have HP := Lib.hid hp
  have HL := Lib.hid hlt
  have HD : Hid (Below w.heap.size w w.drew) := (Below.refl _ _).drew
  have HA : Hid (∀ o : Obj, Below w.heap.size w (w.alloc o).drew) := fun o => ((Below.refl _ _).alloc (Nat.le_refl _) o).drew
  have HA2 : Hid (∀ o : Obj, Below w.heap.size w (w.drew.alloc o)) := fun o => ((Below.refl _ _).drew.alloc (Nat.le_refl _) o)
  have HS : Hid (∀ w', Below w.heap.size w w' → Below w.heap.size w w' ∧ w'.cell? ⟨g, 4, none⟩ = some (.slice ao2 m2 q2) ∧ w'.cell? ⟨g, 5, none⟩ = some (.slice ao3 m3 q3) ∧ w'.cell? ⟨bx, 0, none⟩ = some (.slice sS mS cS) ∧ w'.cell? ⟨bx, 1, none⟩ = some (.slice sI mI cI)) := fun w' k =>
    ⟨k, (k.cell (p := ⟨g, 4, none⟩) hlt).trans c4, (k.cell (p := ⟨g, 5, none⟩) hlt).trans c5, (k.cell (p := ⟨bx, 0, none⟩) hbl).trans x0, (k.cell (p := ⟨bx, 1, none⟩) hbl).trans x1⟩
  clear hP hM k2 hp hlt hok
  unfold ptr
  go_enter Tryz.func71, Tryz.ntmps71
  go_wp2
  go_region_held3 (fun w' => Below w.heap.size w w' ∧ w'.cell? ⟨g, 4, none⟩ = some (.slice ao2 m2 q2) ∧ w'.cell? ⟨g, 5, none⟩ = some (.slice ao3 m3 q3) ∧ w'.cell? ⟨bx, 0, none⟩ = some (.slice sS mS cS) ∧ w'.cell? ⟨bx, 1, none⟩ = some (.slice sI mI cI)) (first | exact HS.out _ HD.out | exact HS.out _ S3.out | exact HS.out _ (S3.out.alloc S3.out.size _) | exact HS.out _ (HA.out _) | exact HS.out _ (HA2.out _) | exact HS.out _ ((S3.out.setCell (p := ⟨w.heap.size, 0, none⟩) (Nat.le_refl _) _).setCell (p := ⟨w.heap.size, 1, none⟩) (Nat.le_refl _) _) | go_keep) ((go_at_call 72; refine (K2.out _ (by first | exact HD.out | exact Below.refl _ _ | exact HA.out _ | exact HA2.out _)).mono ?_; rintro e w3 ⟨u1, u2, rfl, i1, i2, b3⟩; obtain ⟨ao4, m4, q4, rfl⟩ := i1.shape3; obtain ⟨ao5, m5, q5, rfl⟩ := i2.shape3; have S3 : Hid (Below w.heap.size w w3) := (by first | exact HD.out.trans (b3.mono HD.out.size) | exact b3 | exact (HA.out _).trans (b3.mono (HA.out _).size) | exact (HA2.out _).trans (b3.mono (HA2.out _).size)); try (have rw3 : w3.heap[w.heap.size]? = some (.cells #[.slice none 0 0, .slice none 0 0] 34 (0, 0)) := (by first | exact (b3.block _ (by simp)).trans (heap_alloc_new w.drew _) | exact (b3.block _ (by simp)).trans (heap_alloc_new w _)); have AA := Lib.hid (((AtT.start rw3).set 0 (.slice ao4 m4 q4)).set 1 (.slice ao5 m5 q5)); have z0 : w3.cell? ⟨w.heap.size, 0, none⟩ = some (.slice none 0 0) := (AtT.start rw3).cell 0; have y0 : w3.frozen? ⟨w.heap.size, 0, none⟩ = false := (AtT.start rw3).frozen 0; have z1 : (w3.setCell ⟨w.heap.size, 0, none⟩ (.slice ao4 m4 q4)).cell? ⟨w.heap.size, 1, none⟩ = some (.slice none 0 0) := ((AtT.start rw3).set 0 (.slice ao4 m4 q4)).cell 1; have y1 : (w3.setCell ⟨w.heap.size, 0, none⟩ (.slice ao4 m4 q4)).frozen? ⟨w.heap.size, 1, none⟩ = false := ((AtT.start rw3).set 0 (.slice ao4 m4 q4)).frozen 1)))
  · obtain ⟨bz, hbz⟩ : ∃ bz, bz = w3.heap.size := ⟨_, rfl⟩
    obtain ⟨W5, hW5⟩ : ∃ W5, W5 = w3.alloc (.cells #[Value.slice ao4 m4 q4, Value.slice ao5 m5 q5] 34) := ⟨_, rfl⟩
    have hal : Below w3.heap.size w3 W5 := by rw [hW5]; exact (Below.refl _ _).alloc (Nat.le_refl _) _
    have hrow : W5.heap[bz]? = some (.cells #[Value.slice ao4 m4 q4, Value.slice ao5 m5 q5] 34 (0, 0)) := by rw [hW5, hbz]; exact heap_alloc_new w3 _
    have hB5 : Below w.heap.size w W5 := S3.out.trans (hal.mono S3.out.size)
    have j1 := i1.below hal (Nat.le_refl _)
    have j2 := i2.below hal (Nat.le_refl _)
    rw [← hW5, ← hbz]
    clear hW5 hbz hal
    have Z0 : W5.cell? ⟨bz, 0, none⟩ = some (.slice ao4 m4 q4) := by rw [cell_of_row W5 bz 0 _ 34 (0, 0) hrow]; rfl
    have Z1 : W5.cell? ⟨bz, 1, none⟩ = some (.slice ao5 m5 q5) := by rw [cell_of_row W5 bz 1 _ 34 (0, 0) hrow]; rfl
    have P5 := Lib.hid (HP.out.keep (Keep3.of_below hB5) (hB5.block _ HL.out))
    have A5 := Lib.hid (At66.start P5.out.row)
    have g4 : W5.frozen? ⟨g, 4, none⟩ = false := P5.out.frozen 4
    have r4 : W5.cell? ⟨g, 4, none⟩ = some (.slice ao2 m2 q2) := P5.out.cell 4
    have g5 : (W5.setCell ⟨g, 4, none⟩ (.slice ao4 m4 q4)).frozen? ⟨g, 5, none⟩ = false := (A5.out.set 4 _).frozen 5
    have r5 : (W5.setCell ⟨g, 4, none⟩ (.slice ao4 m4 q4)).cell? ⟨g, 5, none⟩ = some (.slice ao3 m3 q3) := (A5.out.set 4 _).cell 5
    have J1 := Lib.hid j1
    have J2 := Lib.hid j2
    have HB5 := Lib.hid hB5
    clear hrow hB5 j1 j2 c4 c5 c4' c5' x0' x1' i1 i2 b3
    go_wp2
    go_end0
    exact ⟨W5, .slice ao4 m4 q4, .slice ao5 m5 q5, rfl, HB5.out, (A5.out.set 4 _).set 5 _, J1.out, J2.out⟩
  · obtain ⟨bz, hbz⟩ : ∃ bz, bz = w.heap.size := ⟨_, rfl⟩
    obtain ⟨W5, hW5⟩ : ∃ W5, W5 = (w3.setCell ⟨w.heap.size, 0, none⟩ (.slice ao4 m4 q4)).setCell ⟨w.heap.size, 1, none⟩ (.slice ao5 m5 q5) := ⟨_, rfl⟩
    have A3 := AA.out
    rw [← hW5] at A3
    have hrow : W5.heap[bz]? = some (.cells #[Value.slice ao4 m4 q4, Value.slice ao5 m5 q5] 34 (0, 0)) := by rw [hbz]; exact A3.row
    have hB5 : Below w.heap.size w W5 := S3.out.trans A3.below
    have j1 := i1.keep (A3.keep3 (by decide) hlo)
    have j2 := i2.keep (A3.keep3 (by decide) hlo)
    rw [← hW5, ← hbz]
    clear hW5 hbz A3 AA z0 y0 z1 y1 rw3
    have Z0 : W5.cell? ⟨bz, 0, none⟩ = some (.slice ao4 m4 q4) := by rw [cell_of_row W5 bz 0 _ 34 (0, 0) hrow]; rfl
    have Z1 : W5.cell? ⟨bz, 1, none⟩ = some (.slice ao5 m5 q5) := by rw [cell_of_row W5 bz 1 _ 34 (0, 0) hrow]; rfl
    have P5 := Lib.hid (HP.out.keep (Keep3.of_below hB5) (hB5.block _ HL.out))
    have A5 := Lib.hid (At66.start P5.out.row)
    have g4 : W5.frozen? ⟨g, 4, none⟩ = false := P5.out.frozen 4
    have r4 : W5.cell? ⟨g, 4, none⟩ = some (.slice ao2 m2 q2) := P5.out.cell 4
    have g5 : (W5.setCell ⟨g, 4, none⟩ (.slice ao4 m4 q4)).frozen? ⟨g, 5, none⟩ = false := (A5.out.set 4 _).frozen 5
    have r5 : (W5.setCell ⟨g, 4, none⟩ (.slice ao4 m4 q4)).cell? ⟨g, 5, none⟩ = some (.slice ao3 m3 q3) := (A5.out.set 4 _).cell 5
    have J1 := Lib.hid j1
    have J2 := Lib.hid j2
    have HB5 := Lib.hid hB5
    clear hrow hB5 j1 j2 c4 c5 c4' c5' x0' x1' i1 i2 b3
    go_wp2
    go_end0
    exact ⟨W5, .slice ao4 m4 q4, .slice ao5 m5 q5, rfl, HB5.out, (A5.out.set 4 _).set 5 _, J1.out, J2.out⟩
set_option maxRecDepth 100000 in
set_option maxHeartbeats 1000000 in
theorem reach_grant (B T M : Nat) (bl : ByteArray → Nat) (L : List PR) (to : ByteArray) (bx : Nat) (uP uM : Value) (lP lM : List Int) (w : World) (p q : PR) (h : TabAt w B T M bl L) (hid : to.size ≤ maxLen) (hp : p ∈ L) (hg : get L to = some q) (hx : q.exited = false)
    (hFp : Fine p) (hFq : Fine q) (hfl : flowL p.S p.I q.S q.I = true) (hbx : w.cell? ⟨bx, 0, none⟩ = some uP) (hby : w.cell? ⟨bx, 1, none⟩ = some uM) (hbl : bx < w.heap.size) (hP : IntsAt w uP lP) (hM : IntsAt w uM lM) (nP : lP.length ≤ 17592186043904) (nM : lM.length ≤ 17592186043904) (hok : (joinOk q.Plus lP && joinOk q.Minus lM) = true) :
    Calls Tryz.prog 70 #[ptr T, ptr (bl p.id), .string to, .func (.func 71) #[] #[ptr bx]] w fun e w' => e = .returned (.int .i64 0) ∧ TabAt w' B T M bl (updP (moreP q lP lM) L) ∧ Bel B w w' := by
  obtain ⟨hqL, hqid⟩ := get_mem hg
  have hrun := h.lookup to hid
  have c0 := h.cellT
  unfold ptrOf at hrun
  rw [hg] at hrun
  simp only at hrun
  obtain ⟨a, b, c, d, hpp⟩ := h.procs p hp
  obtain ⟨a', b', c', d', hqq⟩ := h.procs q hqL
  obtain ⟨ao0, m0, q0, hv0⟩ := hpp.hS.shape3
  obtain ⟨ao1, m1, q1, hv1⟩ := hpp.hI.shape3
  obtain ⟨ao2, m2, q2, hv2⟩ := hqq.hS.shape3
  obtain ⟨ao3, m3, q3, hv3⟩ := hqq.hI.shape3
  subst hv0 hv1 hv2 hv3
  have c8 : w.cell? ⟨bl q.id, 8, none⟩ = some (.bool false) := by rw [hqq.cell 8, ← hx]; rfl
  have hpl := h.ltP hp
  have hql := h.ltP hqL
  have K1 : Hid (∀ W', Below w.heap.size w W' → Calls Tryz.prog 63 #[.agg #[.slice ao0 m0 q0, .slice ao1 m1 q1], .agg #[.slice ao2 m2 q2, .slice ao3 m3 q3]] W' fun e w' => e = .returned (.bool true) ∧ Below W'.heap.size W' w') := fun W' k => by
    refine (flows_any _ _ _ _ p.S p.I q.S q.I W' (hpp.hS.below k (Nat.le_refl _)) (hpp.hI.below k (Nat.le_refl _)) (hqq.hS.below k (Nat.le_refl _)) (hqq.hI.below k (Nat.le_refl _)) hFp.lS hFp.lI hFq.lS hFq.lI).mono ?_
    rintro e w' ⟨rfl, hb⟩
    exact ⟨by rw [← hfl]; rfl, hb⟩
  have l2 : ∀ j : Lat w, j.w.cell? ⟨bl p.id, 2, none⟩ = some (.slice ao0 m0 q0) := fun j => (j.h.cell (p := ⟨bl p.id, 2, none⟩) hpl).trans (hpp.cell 2)
  have l3 : ∀ j : Lat w, j.w.cell? ⟨bl p.id, 3, none⟩ = some (.slice ao1 m1 q1) := fun j => (j.h.cell (p := ⟨bl p.id, 3, none⟩) hpl).trans (hpp.cell 3)
  have r2 : ∀ j : Lat w, j.w.cell? ⟨bl q.id, 2, none⟩ = some (.slice ao2 m2 q2) := fun j => (j.h.cell (p := ⟨bl q.id, 2, none⟩) hql).trans (hqq.cell 2)
  have r3 : ∀ j : Lat w, j.w.cell? ⟨bl q.id, 3, none⟩ = some (.slice ao3 m3 q3) := fun j => (j.h.cell (p := ⟨bl q.id, 3, none⟩) hql).trans (hqq.cell 3)
  have HT := Lib.hid h
  have HQ := Lib.hid hqq
  have HL := Lib.hid hqL
  have HB : Hid (B ≤ w.heap.size) := by have := h.lowT; have := h.ltT; show _ ≤ _; omega
  have HX : Hid (∀ j : Lat w, j.w.cell? ⟨bx, 0, none⟩ = some uP ∧ j.w.cell? ⟨bx, 1, none⟩ = some uM ∧ IntsAt j.w uP lP ∧ IntsAt j.w uM lM ∧ bx < j.w.heap.size) := fun j => ⟨(j.h.cell (p := ⟨bx, 0, none⟩) hbl).trans hbx, (j.h.cell (p := ⟨bx, 1, none⟩) hbl).trans hby, hP.below j.h (Nat.le_refl _), hM.below j.h (Nat.le_refl _), Nat.lt_of_lt_of_le hbl j.h.size⟩
  have HOK := Lib.hid hok
  have HQL := Lib.hid hql
  unfold ptr at *
  obtain ⟨g, hgb⟩ : ∃ g, g = bl p.id := ⟨_, rfl⟩
  rw [← hgb] at l2 l3 ⊢
  obtain ⟨k, hkb⟩ : ∃ k, k = bl q.id := ⟨_, rfl⟩
  rw [← hkb] at hrun c8 r2 r3
  have HK := Lib.hid hkb
  clear h hg hpp hqq hfl hbx hby hbl hP hM hok hx hpl hql hgb hkb hqL hqid hp
  go_enter Tryz.func70, Tryz.ntmps70
  go_wp2
  refine wp_region_lat (W := w) (by kernel_rfl) (by kernel_rfl) (Below.refl _ _) ?_
  iterate 12 (go_big_quiet_step (with_reducible exact Lat.call (K1.out _ (Lat.h _))))
  refine wpQuiet_nil ?_
  rintro _ ⟨j, rfl⟩
  have hT := HT.out.below j.h
  have hq2 := HQ.out.keep (Keep3.of_below j.h) (j.h.block _ HQL.out)
  have K2 : Hid (Calls Tryz.prog 71 #[.pointer (some ⟨k, 0, none⟩), .pointer (some ⟨bx, 0, none⟩)] j.w fun e w' => ∃ w3 x y, e = .returned (.tuple #[]) ∧ Below j.w.heap.size j.w w3 ∧ At66 w3 w' k ((moreP q lP lM).cells (.slice ao2 m2 q2) (.slice ao3 m3 q3) x y) ∧ IntsAt w3 x (moreP q lP lM).Plus ∧ IntsAt w3 y (moreP q lP lM).Minus) :=
    grantdo_any j.w k bx q _ _ _ _ uP uM lP lM (by rw [HK.out]; exact hq2) hFq (HX.out j).1 (HX.out j).2.1 (HX.out j).2.2.1 (HX.out j).2.2.2.1 nP nM (HX.out j).2.2.2.2 HOK.out (by have := HT.out.lowB; have := HB.out; have := j.h.size; omega)
  have HT2 := Lib.hid hT
  have HQ2 := Lib.hid hq2
  have HJ : Hid (Bel B w j.w) := j.h.bel HB.out
  clear hT hq2 l2 l3 r2 r3
  have HJS : Hid (B ≤ j.w.heap.size) := Nat.le_trans HB.out j.h.size
  go_wp2_with (go_at_call 71; refine K2.out.mono ?_; rintro e w2 ⟨w3, x, y, rfl, b3, A, i1, i2⟩)
  have Q3 := HQ2.out.keep (Keep3.of_below b3) (b3.block _ (HT2.out.ltP HL.out))
  obtain ⟨t2, b2⟩ := (HT2.out.below b3).at66 (p' := moreP q lP lM) HL.out rfl (by rw [← HK.out]; exact A) Q3.hS Q3.hI i1 i2
  go_wp2
  go_ret
  exact ⟨rfl, t2, HJ.out.trans ((b3.bel HJS.out).trans b2)⟩
set_option maxRecDepth 100000 in
set_option maxHeartbeats 1000000 in
/-- Grant to one that lives and is seen. -/
theorem grant_live (B T M : Nat) (bl : ByteArray → Nat) (L : List PR) (id to : ByteArray) (uP uM : Value) (lP lM : List Int) (w : World) (p q : PR) (h : TabAt w B T M bl L) (hid : id.size ≤ maxLen) (hto : to.size ≤ maxLen) (hgp : get L id = some p) (hxp : p.exited = false) (hv : validB to = true)
    (hg : get L to = some q) (hx : q.exited = false) (hFp : Fine p) (hFq : Fine q) (hfl : flowL p.S p.I q.S q.I = true) (hP : IntsAt w uP lP) (hM : IntsAt w uM lM) (nP : lP.length ≤ 17592186043904) (nM : lM.length ≤ 17592186043904) (hs : (setL lP && setL lM) = true) (hw : (subL lP p.Plus && subL lM p.Minus) = true) (hok : (joinOk q.Plus lP && joinOk q.Minus lM) = true) :
    Calls Tryz.prog 32 #[ptr T, .string id, .string to, .agg #[uP, uM]] w fun e w' => e = .returned (.int .i64 0) ∧ TabAt w' B T M bl (updP (moreP q lP lM) L) ∧ Bel B w w' := by
  obtain ⟨hpL, hpid⟩ := get_mem hgp
  obtain ⟨sS, mS, cS, rfl⟩ := hP.shape3
  obtain ⟨sI, mI, cI, rfl⟩ := hM.shape3
  obtain ⟨W, hW⟩ : ∃ W, W = w.alloc (.cells #[.slice sS mS cS, .slice sI mI cI] 34) := ⟨_, rfl⟩
  have bW : Below w.heap.size w W := by rw [hW]; exact (Below.refl _ _).alloc (Nat.le_refl _) _
  have hBw : B ≤ w.heap.size := by have := h.lowT; have := h.ltT; omega
  have hTW := h.below bW
  have ho := of_any B T M bl L id W hTW hid
  obtain ⟨e1, e2⟩ := of_live (bl := bl) hgp hxp
  rw [e1, e2] at ho
  have hlt : w.heap.size < W.heap.size := by rw [hW]; simp
  have hXP := hP.below bW (Nat.le_refl _)
  have hXM := hM.below bW (Nat.le_refl _)
  obtain ⟨vS, vI, vP, vM, hp⟩ := hTW.procs p hpL
  obtain ⟨ao2, m2, q2, hv2⟩ := hp.hP.shape3
  obtain ⟨ao3, m3, q3, hv3⟩ := hp.hM.shape3
  subst hv2 hv3
  have hgW : bl p.id < W.heap.size := hTW.ltP hpL
  have row : W.heap[w.heap.size]? = some (.cells #[.slice sS mS cS, .slice sI mI cI] 34 (0, 0)) := by rw [hW]; exact heap_alloc_new w _
  have hc : ∀ W', Below W.heap.size W W' → W'.cell? ⟨bl p.id, 4, none⟩ = some (.slice ao2 m2 q2) ∧ W'.cell? ⟨bl p.id, 5, none⟩ = some (.slice ao3 m3 q3) ∧ W'.cell? ⟨w.heap.size, 0, none⟩ = some (.slice sS mS cS) ∧ W'.cell? ⟨w.heap.size, 1, none⟩ = some (.slice sI mI cI) := fun W' k =>
    have f := fun i => k.cell (p := ⟨bl p.id, i, none⟩) hgW
    have f' := fun i => k.cell (p := ⟨w.heap.size, i, none⟩) hlt
    ⟨(f 4).trans (hp.cell 4), (f 5).trans (hp.cell 5), (f' 0).trans (by rw [cell_of_row _ _ 0 _ 34 (0, 0) row]; rfl), (f' 1).trans (by rw [cell_of_row _ _ 1 _ 34 (0, 0) row]; rfl)⟩
  obtain ⟨c4, c5, x0, x1⟩ := hc W (Below.refl _ _)
  have cv := fun W' => valid_any to W' hto
  rw [hv] at cv
  have ks : Hid (∀ W', Below W.heap.size W W' → Calls Tryz.prog 66 #[.agg #[.slice sS mS cS, .slice sI mI cI]] W' fun e w' => e = .returned (.bool true) ∧ Below W'.heap.size W' w') := fun W' k => by
    have := sets_any _ _ lP lM W' (hXP.below k (Nat.le_refl _)) (hXM.below k (Nat.le_refl _)) nP nM
    rw [hs] at this
    exact this
  have kw : Hid (∀ W', Below W.heap.size W W' → Calls Tryz.prog 69 #[.agg #[.slice sS mS cS, .slice sI mI cI], .agg #[.slice ao2 m2 q2, .slice ao3 m3 q3]] W' fun e w' => e = .returned (.bool true) ∧ Below W'.heap.size W' w') := fun W' k => by
    have := within_any _ _ _ _ lP lM p.Plus p.Minus W' (hXP.below k (Nat.le_refl _)) (hXM.below k (Nat.le_refl _)) (hp.hP.below k (Nat.le_refl _)) (hp.hM.below k (Nat.le_refl _)) nP nM hFp.lP hFp.lM
    rw [hw] at this
    exact this
  have cr : Hid (∀ W', Below W.heap.size W W' → Calls Tryz.prog 70 #[.pointer (some ⟨T, 0, none⟩), .pointer (some ⟨bl p.id, 0, none⟩), .string to, .func (.func 71) #[] #[.pointer (some ⟨w.heap.size, 0, none⟩)]] W' fun e w' => e = .returned (.int .i64 0) ∧ TabAt w' B T M bl (updP (moreP q lP lM) L) ∧ Bel B W' w') := fun W' k =>
    reach_grant B T M bl L to w.heap.size _ _ lP lM W' p q (hTW.below k) hto hpL hg hx hFp hFq hfl (hc W' k).2.2.1 (hc W' k).2.2.2 (by have := k.size; omega) (hXP.below k (Nat.le_refl _)) (hXM.below k (Nat.le_refl _)) nP nM hok
  have HC := Lib.hid hc
  have HB := Lib.hid (bW.bel hBw)
  have HBW : Hid (B ≤ W.heap.size) := Nat.le_trans hBw bW.size
  have hmf : ∀ (fn : Fn) (first cap : Array Value) (w : World), (Instr.makeFunc fn first cap).run Tryz.prog w = .ok (.func fn first cap) w := fun _ _ _ _ => rfl
  have CV := Lib.hid cv
  clear h hTW bW hgp hg e1 e2 hc hfl hP hM hXP hXM hp row hs hw hok cv hpid hpL hx hxp hlt
  unfold ptr at *
  obtain ⟨g, hgb⟩ : ∃ g, g = bl p.id := ⟨_, rfl⟩
  rw [← hgb] at ho HC cr c4 c5 hgW
  obtain ⟨bx, hbx⟩ : ∃ bx, bx = w.heap.size := ⟨_, rfl⟩
  rw [← hbx] at HC cr x0 x1
  clear hgb
  obtain ⟨G0⟩ : Nonempty Nat := ⟨0⟩
  go_enter Tryz.func32, Tryz.ntmps32
  go_upto_region 1 with (fail)
  rw [← hW, ← hbx]
  clear hW hbx
  go_wp2_with (first
    | (go_at_call 23; refine ho.mono ?_; rintro e w1 ⟨rfl, rfl⟩)
    | (go_at_call 68; refine (CV.out _).mono ?_; rintro e w2 ⟨rfl, b2⟩; have B2 := Lib.hid b2; obtain ⟨d4, d5, y0, y1⟩ := HC.out w2 b2)
    | (go_at_call 66; refine (ks.out _ B2.out).mono ?_; rintro e w3 ⟨rfl, b3⟩; have B3 := Lib.hid (B2.out.trans (b3.mono B2.out.size))))
  have l4 : ∀ j : Lat w1, j.w.cell? ⟨g, 4, none⟩ = some (.slice ao2 m2 q2) := fun j => (HC.out j.w j.h).1
  have l5 : ∀ j : Lat w1, j.w.cell? ⟨g, 5, none⟩ = some (.slice ao3 m3 q3) := fun j => (HC.out j.w j.h).2.1
  have lx : ∀ j : Lat w1, j.w.cell? ⟨bx, 0, none⟩ = some (.slice sS mS cS) := fun j => (HC.out j.w j.h).2.2.1
  have ly : ∀ j : Lat w1, j.w.cell? ⟨bx, 1, none⟩ = some (.slice sI mI cI) := fun j => (HC.out j.w j.h).2.2.2
  refine wp_region_lat (W := w1) (by kernel_rfl) (by kernel_rfl) B3.out ?_
  iterate 9 (go_big_quiet_step (with_reducible exact Lat.call (kw.out _ (Lat.h _))))
  refine wpQuiet_nil ?_
  rintro _ ⟨j, rfl⟩
  have JJ : Hid (Below w1.heap.size w1 j.w) := j.h
  clear l4 l5 lx ly
  go_wp2_with (go_at_call 70; refine (cr.out _ JJ.out).mono ?_; rintro e w5 ⟨rfl, t5, b5⟩)
  go_ret
  exact ⟨rfl, t5, (HB.out.trans (JJ.out.bel HBW.out)).trans b5⟩
set_option maxRecDepth 100000 in
set_option maxHeartbeats 1000000 in
/-- Grant to one that is not there. -/
theorem grant_none (B T M : Nat) (bl : ByteArray → Nat) (L : List PR) (id to : ByteArray) (uP uM : Value) (lP lM : List Int) (w : World) (p : PR) (h : TabAt w B T M bl L) (hid : id.size ≤ maxLen) (hto : to.size ≤ maxLen) (hgp : get L id = some p) (hxp : p.exited = false) (hv : validB to = true)
    (hn : noneLives L to = true) (hFp : Fine p) (hP : IntsAt w uP lP) (hM : IntsAt w uM lM) (nP : lP.length ≤ 17592186043904) (nM : lM.length ≤ 17592186043904) (hs : (setL lP && setL lM) = true) (hw : (subL lP p.Plus && subL lM p.Minus) = true) :
    Calls Tryz.prog 32 #[ptr T, .string id, .string to, .agg #[uP, uM]] w fun e w' => e = .returned (.int .i64 0) ∧ TabAt w' B T M bl L ∧ Bel B w w' := by
  obtain ⟨hpL, hpid⟩ := get_mem hgp
  obtain ⟨sS, mS, cS, rfl⟩ := hP.shape3
  obtain ⟨sI, mI, cI, rfl⟩ := hM.shape3
  obtain ⟨W, hW⟩ : ∃ W, W = w.alloc (.cells #[.slice sS mS cS, .slice sI mI cI] 34) := ⟨_, rfl⟩
  have bW : Below w.heap.size w W := by rw [hW]; exact (Below.refl _ _).alloc (Nat.le_refl _) _
  have hBw : B ≤ w.heap.size := by have := h.lowT; have := h.ltT; omega
  have hTW := h.below bW
  have ho := of_any B T M bl L id W hTW hid
  obtain ⟨e1, e2⟩ := of_live (bl := bl) hgp hxp
  rw [e1, e2] at ho
  have hlt : w.heap.size < W.heap.size := by rw [hW]; simp
  have hXP := hP.below bW (Nat.le_refl _)
  have hXM := hM.below bW (Nat.le_refl _)
  obtain ⟨vS, vI, vP, vM, hp⟩ := hTW.procs p hpL
  obtain ⟨ao2, m2, q2, hv2⟩ := hp.hP.shape3
  obtain ⟨ao3, m3, q3, hv3⟩ := hp.hM.shape3
  subst hv2 hv3
  have hgW : bl p.id < W.heap.size := hTW.ltP hpL
  have row : W.heap[w.heap.size]? = some (.cells #[.slice sS mS cS, .slice sI mI cI] 34 (0, 0)) := by rw [hW]; exact heap_alloc_new w _
  have hc : ∀ W', Below W.heap.size W W' → W'.cell? ⟨bl p.id, 4, none⟩ = some (.slice ao2 m2 q2) ∧ W'.cell? ⟨bl p.id, 5, none⟩ = some (.slice ao3 m3 q3) ∧ W'.cell? ⟨w.heap.size, 0, none⟩ = some (.slice sS mS cS) ∧ W'.cell? ⟨w.heap.size, 1, none⟩ = some (.slice sI mI cI) := fun W' k =>
    have f := fun i => k.cell (p := ⟨bl p.id, i, none⟩) hgW
    have f' := fun i => k.cell (p := ⟨w.heap.size, i, none⟩) hlt
    ⟨(f 4).trans (hp.cell 4), (f 5).trans (hp.cell 5), (f' 0).trans (by rw [cell_of_row _ _ 0 _ 34 (0, 0) row]; rfl), (f' 1).trans (by rw [cell_of_row _ _ 1 _ 34 (0, 0) row]; rfl)⟩
  obtain ⟨c4, c5, x0, x1⟩ := hc W (Below.refl _ _)
  have cv := fun W' => valid_any to W' hto
  rw [hv] at cv
  have ks : Hid (∀ W', Below W.heap.size W W' → Calls Tryz.prog 66 #[.agg #[.slice sS mS cS, .slice sI mI cI]] W' fun e w' => e = .returned (.bool true) ∧ Below W'.heap.size W' w') := fun W' k => by
    have := sets_any _ _ lP lM W' (hXP.below k (Nat.le_refl _)) (hXM.below k (Nat.le_refl _)) nP nM
    rw [hs] at this
    exact this
  have kw : Hid (∀ W', Below W.heap.size W W' → Calls Tryz.prog 69 #[.agg #[.slice sS mS cS, .slice sI mI cI], .agg #[.slice ao2 m2 q2, .slice ao3 m3 q3]] W' fun e w' => e = .returned (.bool true) ∧ Below W'.heap.size W' w') := fun W' k => by
    have := within_any _ _ _ _ lP lM p.Plus p.Minus W' (hXP.below k (Nat.le_refl _)) (hXM.below k (Nat.le_refl _)) (hp.hP.below k (Nat.le_refl _)) (hp.hM.below k (Nat.le_refl _)) nP nM hFp.lP hFp.lM
    rw [hw] at this
    exact this
  have cr : Hid (∀ W', Below W.heap.size W W' → Calls Tryz.prog 70 #[.pointer (some ⟨T, 0, none⟩), .pointer (some ⟨bl p.id, 0, none⟩), .string to, .func (.func 71) #[] #[.pointer (some ⟨w.heap.size, 0, none⟩)]] W' fun e w' => e = .returned (.int .i64 0) ∧ TabAt w' B T M bl L ∧ Bel B W' w') := fun W' k =>
    (reach_none B T M bl L to _ _ W' (hTW.below k) hto hn).mono (by rintro e w' ⟨rfl, rfl⟩; exact ⟨rfl, hTW.below k, Bel.refl _ _⟩)
  have HC := Lib.hid hc
  have HB := Lib.hid (bW.bel hBw)
  have HBW : Hid (B ≤ W.heap.size) := Nat.le_trans hBw bW.size
  have hmf : ∀ (fn : Fn) (first cap : Array Value) (w : World), (Instr.makeFunc fn first cap).run Tryz.prog w = .ok (.func fn first cap) w := fun _ _ _ _ => rfl
  have CV := Lib.hid cv
  clear h hTW bW hgp e1 e2 hc hP hM hXP hXM hp row hs hw cv hpid hpL hxp hlt hn
  unfold ptr at *
  obtain ⟨g, hgb⟩ : ∃ g, g = bl p.id := ⟨_, rfl⟩
  rw [← hgb] at ho HC cr c4 c5 hgW
  obtain ⟨bx, hbx⟩ : ∃ bx, bx = w.heap.size := ⟨_, rfl⟩
  rw [← hbx] at HC cr x0 x1
  clear hgb
  obtain ⟨G0⟩ : Nonempty Nat := ⟨0⟩
  go_enter Tryz.func32, Tryz.ntmps32
  go_upto_region 1 with (fail)
  rw [← hW, ← hbx]
  clear hW hbx
  go_wp2_with (first
    | (go_at_call 23; refine ho.mono ?_; rintro e w1 ⟨rfl, rfl⟩)
    | (go_at_call 68; refine (CV.out _).mono ?_; rintro e w2 ⟨rfl, b2⟩; have B2 := Lib.hid b2; obtain ⟨d4, d5, y0, y1⟩ := HC.out w2 b2)
    | (go_at_call 66; refine (ks.out _ B2.out).mono ?_; rintro e w3 ⟨rfl, b3⟩; have B3 := Lib.hid (B2.out.trans (b3.mono B2.out.size))))
  have l4 : ∀ j : Lat w1, j.w.cell? ⟨g, 4, none⟩ = some (.slice ao2 m2 q2) := fun j => (HC.out j.w j.h).1
  have l5 : ∀ j : Lat w1, j.w.cell? ⟨g, 5, none⟩ = some (.slice ao3 m3 q3) := fun j => (HC.out j.w j.h).2.1
  have lx : ∀ j : Lat w1, j.w.cell? ⟨bx, 0, none⟩ = some (.slice sS mS cS) := fun j => (HC.out j.w j.h).2.2.1
  have ly : ∀ j : Lat w1, j.w.cell? ⟨bx, 1, none⟩ = some (.slice sI mI cI) := fun j => (HC.out j.w j.h).2.2.2
  refine wp_region_lat (W := w1) (by kernel_rfl) (by kernel_rfl) B3.out ?_
  iterate 9 (go_big_quiet_step (with_reducible exact Lat.call (kw.out _ (Lat.h _))))
  refine wpQuiet_nil ?_
  rintro _ ⟨j, rfl⟩
  have JJ : Hid (Below w1.heap.size w1 j.w) := j.h
  clear l4 l5 lx ly
  go_wp2_with (go_at_call 70; refine (cr.out _ JJ.out).mono ?_; rintro e w5 ⟨rfl, t5, b5⟩)
  go_ret
  exact ⟨rfl, t5, (HB.out.trans (JJ.out.bel HBW.out)).trans b5⟩
end Go.Proofs.YtmphnoabkmoafaaGreatDoor
