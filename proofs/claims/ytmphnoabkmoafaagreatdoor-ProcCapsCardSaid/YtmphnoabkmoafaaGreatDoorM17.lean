/- Change. -/
import Derived.Test.YtmphnoabkmoafaaGreatDoorM16
import Derived.Test.YtmphnoabkmoafaaGreatDoorM13
import Derived.Test.YtmphnoabkmoafaaGreatDoorM10
namespace Go.Proofs.YtmphnoabkmoafaaGreatDoor
open Go.RowKit Go.Maps
set_option linter.unusedVariables false
variable {uu0 : Unit} [Base uu0]
def relP (p : PR) (lS lI : List Int) : PR := { p with S := lS, I := lI }
/-- The children that one leaves behind. -/
def leaves (id : ByteArray) (lS lI : List Int) (q : PR) : Bool := childOf id q && !flowL lS lI q.S q.I
def mayChange (p : PR) (lS lI : List Int) : Bool := setL lS && setL lI && safeL p.S lS p.Plus p.Minus && safeL p.I lI p.Plus p.Minus
/-- A box that a call made, and what it points to, behind whatever may come. -/
structure Boxed41 (w : World) (b : Nat) (vS vI : Value) (lS lI : List Int) : Prop where
  row : w.heap[b]? = some (.cells #[vS, vI] 32 (0, 0))
  hS : IntsAt w vS lS
  hI : IntsAt w vI lI
section
variable {w w' : World} {b : Nat} {vS vI : Value} {lS lI : List Int}
theorem Boxed41.keep (h : Boxed41 w b vS vI lS lI) (k : Keep3 w w') (hb : w'.heap[b]? = w.heap[b]?) : Boxed41 w' b vS vI lS lI := ⟨hb.trans h.row, h.hS.keep k, h.hI.keep k⟩
theorem Boxed41.lt (h : Boxed41 w b vS vI lS lI) : b < w.heap.size := (Array.getElem?_eq_some_iff.1 h.row).1
theorem Boxed41.below (h : Boxed41 w b vS vI lS lI) (k : Below w.heap.size w w') : Boxed41 w' b vS vI lS lI := h.keep (Keep3.of_below k) (k.block _ h.lt)
theorem Boxed41.cell (h : Boxed41 w b vS vI lS lI) (i : Nat) : w.cell? ⟨b, i, none⟩ = (#[vS, vI] : Array Value)[i]? := cell_of_row w b i _ 32 (0, 0) h.row
theorem Boxed41.set (h : Boxed41 w b vS vI lS lI) {g i : Nat} {u : Value} {cs : Array Value} (hg : w.heap[g]? = some (.cells cs 68 (0, 0))) (hlo : Base.lo ≤ g) : Boxed41 (w.setCell ⟨g, i, none⟩ u) b vS vI lS lI := by
  refine h.keep (Keep3.of_far (by decide) hg (fun k hk => heap_setCell_other w ⟨g, i, none⟩ k u (by simpa using hk)) hlo) (heap_setCell_other w ⟨g, i, none⟩ b u ?_)
  rintro rfl
  rw [h.row] at hg
  cases hg
theorem Boxed41.grown (h : Boxed41 w b vS vI lS lI) {r : Nat} {es : Array MapEntry} {k : Nat} (hg : w.grownBy w' (some r)) (hr : w.heap[r]? = some (.map es k) ∨ w.heap.size ≤ r) (hbr : r ≠ b) (k3 : Keep3 w w') : Boxed41 w' b vS vI lS lI :=
  h.keep k3 (hg.block _ h.lt (by rintro e; cases e; exact hbr rfl))
theorem Boxed41.at66 (h : Boxed41 w b vS vI lS lI) {g : Nat} {cs : Array Value} (k : At66 w w' g cs) (hlo : Base.lo ≤ g) : Boxed41 w' b vS vI lS lI := by
  obtain ⟨cs0, h0⟩ := k.was
  refine h.keep (k.keep3 hlo) (k.far b ?_)
  rintro rfl
  rw [h.row] at h0
  cases h0
theorem Boxed41.bel (h : Boxed41 w b vS vI lS lI) {B : Nat} (k : Bel B w w') : Boxed41 w' b vS vI lS lI := h.keep k.keep3 ((k.still _ _ _ _ h.row (by decide)).trans h.row.symm)
end
set_option maxRecDepth 100000 in
set_option maxHeartbeats 2000000 in
theorem change_ok (B T M : Nat) (bl : ByteArray → Nat) (L : List PR) (id : ByteArray) (vS vI : Value) (lS lI : List Int) (w : World) (p : PR) (h : TabAt w B T M bl L) (hF : ∀ q ∈ L, Fine q) (hid : id.size ≤ maxLen) (hg : get L id = some p) (hx : p.exited = false)
    (hS : IntsAt w vS lS) (hI : IntsAt w vI lI) (nS : lS.length ≤ 17592186043904) (nI : lI.length ≤ 17592186043904) (hm : (setL lS && setL lI) = true) (hc : mayChange p lS lI = true) :
    Calls Tryz.prog 30 #[ptr T, .string id, .agg #[vS, vI]] w fun e w' => e = .returned (.int .i64 0) ∧ TabAt w' B T M bl (moveP (leaves id lS lI) (updP (relP p lS lI) L)) ∧ Bel B w w' := by
  obtain ⟨hpL, hpid⟩ := get_mem hg
  have hFp := hF p hpL
  obtain ⟨sS, mS, cS, rfl⟩ := hS.shape3
  obtain ⟨sI, mI, cI, rfl⟩ := hI.shape3
  obtain ⟨W, hW⟩ : ∃ W, W = w.alloc (.cells #[.slice sS mS cS, .slice sI mI cI] 32) := ⟨_, rfl⟩
  have bW : Below w.heap.size w W := by rw [hW]; exact (Below.refl _ _).alloc (Nat.le_refl _) _
  have hBw : B ≤ w.heap.size := by have := h.lowT; have := h.ltT; omega
  have hX : Boxed41 W w.heap.size (.slice sS mS cS) (.slice sI mI cI) lS lI := ⟨by rw [hW]; exact heap_alloc_new w _, hS.below bW (Nat.le_refl _), hI.below bW (Nat.le_refl _)⟩
  have hTW := h.below bW
  have hneP : ∀ q ∈ L, bl q.id ≠ w.heap.size := fun q hq => by have := h.ltP hq; omega
  have hneM : M ≠ w.heap.size := by have := h.ltM; omega
  have hneT : T ≠ w.heap.size := by have := h.ltT; omega
  have ho := of_any B T M bl L id W hTW hid
  obtain ⟨e1, e2⟩ := of_live (bl := bl) hg hx
  rw [e1, e2] at ho
  obtain ⟨vS, vI, vP, vM, hp⟩ := hTW.procs p hpL
  obtain ⟨ao0, m0, q0, hv0⟩ := hp.hS.shape3
  obtain ⟨ao1, m1, q1, hv1⟩ := hp.hI.shape3
  obtain ⟨ao2, m2, q2, hv2⟩ := hp.hP.shape3
  obtain ⟨ao3, m3, q3, hv3⟩ := hp.hM.shape3
  subst hv0 hv1 hv2 hv3
  have hgW : bl p.id < W.heap.size := hTW.ltP hpL
  -- May
  have k1 := may_any _ _ lS lI W hX.hS hX.hI nS nI
  rw [hm] at k1
  -- Change
  have k2 : ∀ W', Below W.heap.size W W' → Calls Tryz.prog 65 #[.agg #[.slice ao0 m0 q0, .slice ao1 m1 q1], .agg #[.slice sS mS cS, .slice sI mI cI], .agg #[.slice ao2 m2 q2, .slice ao3 m3 q3]] W' fun e w' => e = .returned (.bool true) ∧ Below W'.heap.size W' w' := fun W' k => by
    have := change_any _ _ _ _ _ _ p.S p.I lS lI p.Plus p.Minus W' (hp.hS.below k (Nat.le_refl _)) (hp.hI.below k (Nat.le_refl _)) (hX.hS.below k (Nat.le_refl _)) (hX.hI.below k (Nat.le_refl _)) (hp.hP.below k (Nat.le_refl _)) (hp.hM.below k (Nat.le_refl _)) hFp.lS hFp.lI nS nI hFp.lP hFp.lM
    unfold mayChange at hc
    rw [hc] at this
    exact this
  have hc : ∀ W', Below W.heap.size W W' → W'.cell? ⟨bl p.id, 2, none⟩ = some (.slice ao0 m0 q0) ∧ W'.cell? ⟨bl p.id, 3, none⟩ = some (.slice ao1 m1 q1) ∧ W'.cell? ⟨bl p.id, 4, none⟩ = some (.slice ao2 m2 q2) ∧ W'.cell? ⟨bl p.id, 5, none⟩ = some (.slice ao3 m3 q3) ∧ W'.cell? ⟨w.heap.size, 0, none⟩ = some (.slice sS mS cS) ∧ W'.cell? ⟨w.heap.size, 1, none⟩ = some (.slice sI mI cI) := fun W' k =>
    have f := fun i => k.cell (p := ⟨bl p.id, i, none⟩) hgW
    have f' := fun i => k.cell (p := ⟨w.heap.size, i, none⟩) hX.lt
    ⟨(f 2).trans (hp.cell 2), (f 3).trans (hp.cell 3), (f 4).trans (hp.cell 4), (f 5).trans (hp.cell 5), (f' 0).trans (hX.cell 0), (f' 1).trans (hX.cell 1)⟩
  obtain ⟨c2, c3, c4, c5, x0, x1⟩ := hc W (Below.refl _ _)
  have K1 := Lib.hid k1
  have K2 := Lib.hid k2
  have HC := Lib.hid hc
  have HX := Lib.hid hX
  have HT := Lib.hid hTW
  have HP := Lib.hid hp
  have HB := Lib.hid (bW.bel hBw)
  have HBW : Hid (B ≤ W.heap.size) := Nat.le_trans hBw bW.size
  have HgW := Lib.hid hgW
  have HL := Lib.hid hpL
  have HI := Lib.hid hpid
  have HF := Lib.hid hF
  have HG := Lib.hid hg
  have HneP := Lib.hid hneP
  have HneM := Lib.hid hneM
  have Hbx : Hid (w.heap.size < W.heap.size) := hX.lt
  obtain ⟨bx, hbx⟩ : ∃ bx, bx = w.heap.size := ⟨_, rfl⟩
  have Hbw : Hid (B ≤ bx) := by rw [hbx]; exact hBw
  rw [← hbx] at HC HX HneP HneM Hbx x0 x1
  clear hS hI k1 k2 hc hX hTW hp bW h e1 e2 hF hg hneP hneM hneT hm hx hpid hgW hBw
  unfold ptr at *
  obtain ⟨g, hgb⟩ : ∃ g, g = bl p.id := ⟨_, rfl⟩
  rw [← hgb] at ho HC HgW HP c2 c3 c4 c5
  have HGB := Lib.hid hgb
  clear hgb
  go_enter Tryz.func30, Tryz.ntmps30
  go_upto_region 1 with (fail)
  rw [← hW, ← hbx]
  clear hW hbx
  go_wp2_with (first
    | (go_at_call 23; refine ho.mono ?_; rintro e w1 ⟨rfl, rfl⟩)
    | (go_at_call 64; refine K1.out.mono ?_; rintro e w2 ⟨rfl, b2⟩; obtain ⟨d2, d3, d4, d5, y0, y1⟩ := HC.out w2 b2))
  have l2 : ∀ j : Lat w1, j.w.cell? ⟨g, 2, none⟩ = some (.slice ao0 m0 q0) := fun j => (HC.out j.w j.h).1
  have l3 : ∀ j : Lat w1, j.w.cell? ⟨g, 3, none⟩ = some (.slice ao1 m1 q1) := fun j => (HC.out j.w j.h).2.1
  have l4 : ∀ j : Lat w1, j.w.cell? ⟨g, 4, none⟩ = some (.slice ao2 m2 q2) := fun j => (HC.out j.w j.h).2.2.1
  have l5 : ∀ j : Lat w1, j.w.cell? ⟨g, 5, none⟩ = some (.slice ao3 m3 q3) := fun j => (HC.out j.w j.h).2.2.2.1
  have lx : ∀ j : Lat w1, j.w.cell? ⟨bx, 0, none⟩ = some (.slice sS mS cS) := fun j => (HC.out j.w j.h).2.2.2.2.1
  have ly : ∀ j : Lat w1, j.w.cell? ⟨bx, 1, none⟩ = some (.slice sI mI cI) := fun j => (HC.out j.w j.h).2.2.2.2.2
  refine wp_region_lat (W := w1) (by kernel_rfl) (by kernel_rfl) b2 ?_
  iterate 14 (go_big_quiet_step (with_reducible exact Lat.call (K2.out _ (Lat.h _))))
  refine wpQuiet_nil ?_
  rintro _ ⟨j, rfl⟩
  have hj : Below w1.heap.size w1 j.w := j.h
  have JX := Lib.hid (HX.out.below hj)
  have JT := Lib.hid (HT.out.below hj)
  have JP := Lib.hid (HP.out.keep (Keep3.of_below hj) (hj.block _ HgW.out))
  have JB := Lib.hid (HB.out.trans (hj.bel HBW.out))
  have x0 := lx j
  have x1 := ly j
  have HJ := Lib.hid hj
  clear l2 l3 l4 l5 lx ly d2 d3 d4 d5 y0 y1 c2 c3 c4 c5 hj
  generalize j.w = wj at *
  have JS : Hid (wj.heap.size ≤ wj.heap.size) := Nat.le_refl _
  have JBW : Hid (B ≤ wj.heap.size) := Nat.le_trans HBW.out HJ.out.size
  go_upto_region 9 with (go_at_call 25; refine (twin_any _ _ lS lI _ JX.out.hS JX.out.hI nS nI).mono ?_; rintro e w3 ⟨u1, u2, rfl, i1, i2, b3⟩; obtain ⟨ao4, m4, q4, rfl⟩ := i1.shape3; obtain ⟨ao5, m5, q5, rfl⟩ := i2.shape3; have P3 := Lib.hid (JP.out.keep (Keep3.of_below b3) (b3.block _ (Array.getElem?_eq_some_iff.1 JP.out.row).1)); have g2 : w3.frozen? ⟨g, 2, none⟩ = false := P3.out.frozen 2; have c2 : w3.cell? ⟨g, 2, none⟩ = some (.slice ao0 m0 q0) := P3.out.cell 2; have A2 := Lib.hid ((At66.start P3.out.row).set 2 (.slice ao4 m4 q4)); have g3 : (w3.setCell ⟨g, 2, none⟩ (.slice ao4 m4 q4)).frozen? ⟨g, 3, none⟩ = false := A2.out.frozen 3; have c3 : (w3.setCell ⟨g, 2, none⟩ (.slice ao4 m4 q4)).cell? ⟨g, 3, none⟩ = some (.slice ao1 m1 q1) := A2.out.cell 3)
  obtain ⟨W4, hW4⟩ : ∃ W4, W4 = (w3.setCell ⟨g, 2, none⟩ (.slice ao4 m4 q4)).setCell ⟨g, 3, none⟩ (.slice ao5 m5 q5) := ⟨_, rfl⟩
  have A4 : At66 w3 W4 (bl p.id) ((relP p lS lI).cells (.slice ao4 m4 q4) (.slice ao5 m5 q5) (.slice ao2 m2 q2) (.slice ao3 m3 q3)) := by rw [hW4, ← HGB.out]; exact A2.out.set 3 _
  have hT3 := JT.out.below b3
  obtain ⟨hT4, hB4⟩ := hT3.at66 (p' := relP p lS lI) HL.out rfl A4 i1 i2 P3.out.hP P3.out.hM
  have X4 := Lib.hid ((JX.out.below b3).at66 A4 (Nat.le_trans hT3.lowB (hT3.lowP p HL.out)))
  have hB4' := JB.out.trans ((b3.bel JBW.out).trans hB4)
  rw [← hW4]
  clear A4 hW4 hT3 hB4 A2 P3 g2 g3 c2 c3 i1 i2 b3
  have hL1 : ∀ q ∈ updP (relP p lS lI) L, q.S.length ≤ 17592186043904 ∧ q.I.length ≤ 17592186043904 := fun q hq => by
    obtain ⟨q0, hq0, rfl⟩ := List.mem_map.1 hq
    split
    · exact ⟨nS, nI⟩
    · exact ⟨(HF.out q0 hq0).lS, (HF.out q0 hq0).lI⟩
  have HneP1 : Hid (∀ q ∈ updP (relP p lS lI) L, bl q.id ≠ bx) := fun q hq => by
    obtain ⟨q0, hq0, rfl⟩ := List.mem_map.1 hq
    split
    · exact HneP.out p HL.out
    · exact HneP.out q0 hq0
  have HF1 := Lib.hid hL1
  have hTab := Lib.hid hT4
  have hWB := Lib.hid hB4'
  have c0 := hT4.cellT
  clear hL1 hT4 hB4'
  generalize hL1 : updP (relP p lS lI) L = L1 at *
  have HLE := Lib.hid hL1
  clear hL1
  go_wp2_with (first | (at_range; refine wpList_range_own _ rfl _ 69 rfl 9 66 law9 und67 _ M _ _ rfl hTab.out.map ?_; intro w0 hrg0 hg0 hs0) | go_in)
  go_frame
  have hBW4 : B ≤ W4.heap.size := by have := hTab.out.lowT; have := hTab.out.ltT; omega
  have b0 : Below W4.heap.size W4 w0 := ⟨hg0.os, hg0.tape, hg0.output, hg0.size, fun k hk => hg0.block k hk (by simp)⟩
  go_loopw [10] (fun _ wr => ∃ left cnt, wr.ranges Tryz.prog 9 readP M W4.heap.size L1.length (encT bl L1) left cnt ∧ TabAt wr B T M bl (mvL (leaves id lS lI) left L1) ∧ Bel B w wr ∧ Boxed41 wr bx (.slice sS mS cS) (.slice sI mI cI) lS lI) (fun _ wr => wr.rangeLeft M W4.heap.size)
  case atStart => exact ⟨_, _, hrg0, by rw [mvL_start]; exact hTab.out.below b0, hWB.out.trans (b0.bel hBW4), X4.out.below b0⟩
  case round =>
    obtain ⟨left, cnt, hrg, hTr, hbr, hxr⟩ := hrel
    have HX := Lib.hid hxr
    clear hxr
    go_wp2_with (first | (at_next; refine wpList_next_procs _ rfl _ rfl M W4.heap.size _ bl L1 left cnt rfl hrg ?_ ?_) | go_in)
    · intro hc0 hl0
      go_wp2
      go_ret
      rw [mvL_end _ _ hl0] at hTr
      exact ⟨rfl, by rw [HLE.out]; exact hTr, hbr⟩
    · intro q w2 cnt2 hq hlq hrg2 hlt hg2 hs2 hen
      have hT2 := hTr.iter hrg hg2
      have hb2 : Bel B w w2 := hbr.grown66 hg2 (by have := hbr.size; have := hTr.lowT; have := hTr.ltT; omega) hBW4 (iter_no_cells hrg)
      have hxs : Still wr w2 := Still.of_grown hg2 (iter_no_cells hrg)
      have hX2 := HX.out.keep (⟨fun g cur e => hxs g cur 3 (0, 0) e (by decide), fun k c t z l e2 => by rw [hg2.block k (Array.getElem?_eq_some_iff.1 e2).1 (by rintro e3; cases e3; exact iter_no_cells hrg _ _ _ e2)]; exact e2⟩ : Keep3 wr w2) ((hxs _ _ _ _ HX.out.row (by decide)).trans HX.out.row.symm)
      have hqm := mvL_mem (f := leaves id lS lI) hq hlq
      obtain ⟨a, b, c, d, hpq⟩ := hT2.procs q hqm
      obtain ⟨oS, nS', kS, hvS⟩ := hpq.hS.shape3
      obtain ⟨oI, nI', kI, hvI⟩ := hpq.hI.shape3
      subst hvS hvI
      have hqlt := hT2.ltP hqm
      have e1 : ∀ j : Lat w2, j.w.cell? ⟨bl q.id, 1, none⟩ = some (.string q.par) := fun j => (j.h.cell (p := ⟨bl q.id, 1, none⟩) hqlt).trans (hpq.cell 1)
      have e2 : ∀ j : Lat w2, j.w.cell? ⟨bl q.id, 2, none⟩ = some (.slice oS nS' kS) := fun j => (j.h.cell (p := ⟨bl q.id, 2, none⟩) hqlt).trans (hpq.cell 2)
      have e3 : ∀ j : Lat w2, j.w.cell? ⟨bl q.id, 3, none⟩ = some (.slice oI nI' kI) := fun j => (j.h.cell (p := ⟨bl q.id, 3, none⟩) hqlt).trans (hpq.cell 3)
      have y0 : ∀ j : Lat w2, j.w.cell? ⟨bx, 0, none⟩ = some (.slice sS mS cS) := fun j => (j.h.cell (p := ⟨bx, 0, none⟩) hX2.lt).trans (hX2.cell 0)
      have y1 : ∀ j : Lat w2, j.w.cell? ⟨bx, 1, none⟩ = some (.slice sI mI cI) := fun j => (j.h.cell (p := ⟨bx, 1, none⟩) hX2.lt).trans (hX2.cell 1)
      have K3 : Hid (∀ W', Below w2.heap.size w2 W' → Calls Tryz.prog 63 #[.agg #[.slice sS mS cS, .slice sI mI cI], .agg #[.slice oS nS' kS, .slice oI nI' kI]] W' fun e w' => e = .returned (.bool (flowL lS lI q.S q.I)) ∧ Below W'.heap.size W' w') := fun W' k =>
        flows_any _ _ _ _ lS lI q.S q.I W' (hX2.hS.below k (Nat.le_refl _)) (hX2.hI.below k (Nat.le_refl _)) (hpq.hS.below k (Nat.le_refl _)) (hpq.hI.below k (Nat.le_refl _)) nS nI (HF1.out q hq).1 (HF1.out q hq).2
      have hu := hTab.out.uniq
      have hlow := hT2.lowP q hqm
      have hneM := hT2.neM hqm
      have hner : W4.heap.size ≠ bl q.id := by have := hTab.out.ltP hq; omega
      have hBw2 : B ≤ w2.heap.size := by have := hT2.lowT; have := hT2.ltT; omega
      have DJ : Hid (∀ j : Lat w2, w2.grownBy j.w Option.none) := fun j => ⟨j.h.os, j.h.tape, j.h.output, j.h.size, fun k hk _ => j.h.block k hk⟩
      have HU := Lib.hid hu
      have HPQ := Lib.hid hpq
      have HT2 := Lib.hid hT2
      have HB2 := Lib.hid hb2
      have HX2 := Lib.hid hX2
      have HRG := Lib.hid hrg2
      have HLT := Lib.hid hlt
      have HRL := Lib.hid hrg
      have HQ := Lib.hid hq
      have HQM := Lib.hid hqm
      clear hT2 hb2 hX2 hpq hu hxs hrg2 hg2 hTr hbr hqm
      by_cases hf : q.par = id
      · have d2 : (q.par.toList == id.toList) = true := by rw [str_eq]; simpa using hf
        obtain ⟨fl, hfl⟩ : ∃ fl, fl = flowL lS lI q.S q.I := ⟨_, rfl⟩
        have hlv : leaves id lS lI q = !fl := by unfold leaves childOf; rw [← hfl]; simp [hf]
        rw [← hfl] at K3
        have HLV := Lib.hid hlv
        clear hfl hlv hf
        cases fl
        · go_wp2
          refine wp_region_lat (W := w2) (by kernel_rfl) (by kernel_rfl) (Below.refl _ _) ?_
          iterate 17 (go_big_quiet_step (with_reducible exact Lat.call (K3.out _ (Lat.h _))))
          refine wpQuiet_nil ?_
          rintro _ ⟨j, rfl⟩
          have hj := j.h
          have hTj := HT2.out.below hj
          have hPj := HPQ.out.keep (Keep3.of_below hj) (hj.block _ (HT2.out.ltP HQM.out))
          have k1 : j.w.cell? ⟨bl q.id, 1, none⟩ = some (.string q.par) := e1 j
          have g1 : j.w.frozen? ⟨bl q.id, 1, none⟩ = false := hPj.frozen 1
          have hset := hTj.set (p' := toOne q) HQM.out rfl 1 (.string ⟨#[49]⟩) (fun a b c d => rfl) rfl rfl rfl rfl
          rw [← mvL_step HU.out HQ.out HLV.out] at hset
          have hrgj := HRG.out.kept (DJ.out j) (by simp) (by simp)
          have hgs := grown_set j.w ⟨bl q.id, 1, none⟩ (.string ⟨#[49]⟩)
          have hrg3 := hrgj.kept hgs (by simpa using hneM) (by simpa using hner)
          have hXj := HX2.out.below hj
          have hrow66 := hPj.row
          have HXJ := Lib.hid hXj
          have HR6 := Lib.hid hrow66
          have HBJ := Lib.hid (HB2.out.trans (hj.bel hBw2))
          clear hTj hPj hXj hrow66 e1 e2 e3 y0 y1
          go_wp2
          go_roundw
          case rel => exact ⟨_, _, hrg3, hset, HBJ.out.set66 HR6.out hlow _ HT2.out.lowB, HXJ.out.set HR6.out (Nat.le_trans HT2.out.lowB hlow)⟩
          case measure => rw [hrg3.left_eq, HRL.out.left_eq]; exact HLT.out
        · go_wp2
          refine wp_region_lat (W := w2) (by kernel_rfl) (by kernel_rfl) (Below.refl _ _) ?_
          iterate 17 (go_big_quiet_step (with_reducible exact Lat.call (K3.out _ (Lat.h _))))
          refine wpQuiet_nil ?_
          rintro _ ⟨j, rfl⟩
          have hj := j.h
          have hset := HT2.out.below hj
          rw [← mvL_skip HU.out HQ.out HLV.out] at hset
          have hrgj := HRG.out.kept (DJ.out j) (by simp) (by simp)
          have HXJ := Lib.hid (HX2.out.below hj)
          have HBJ := Lib.hid (HB2.out.trans (hj.bel hBw2))
          clear e1 e2 e3 y0 y1
          go_wp2
          go_roundw
          case rel => exact ⟨_, _, hrgj, hset, HBJ.out, HXJ.out⟩
          case measure => rw [hrgj.left_eq, HRL.out.left_eq]; exact HLT.out
      · have d2 : (q.par.toList == id.toList) = false := by rw [str_eq]; simpa using hf
        have hlv : leaves id lS lI q = false := by unfold leaves childOf; simp [hf]
        have HLV := Lib.hid hlv
        clear hlv hf
        go_wp2
        refine wp_region_lat (W := w2) (by kernel_rfl) (by kernel_rfl) (Below.refl _ _) ?_
        iterate 17 (go_big_quiet_step (fail))
        refine wpQuiet_nil ?_
        rintro _ ⟨j, rfl⟩
        have hj := j.h
        have hset := HT2.out.below hj
        rw [← mvL_skip HU.out HQ.out HLV.out] at hset
        have hrgj := HRG.out.kept (DJ.out j) (by simp) (by simp)
        have HXJ := Lib.hid (HX2.out.below hj)
        have HBJ := Lib.hid (HB2.out.trans (hj.bel hBw2))
        clear e1 e2 e3 y0 y1
        go_wp2
        go_roundw
        case rel => exact ⟨_, _, hrgj, hset, HBJ.out, HXJ.out⟩
        case measure => rw [hrgj.left_eq, HRL.out.left_eq]; exact HLT.out
set_option maxRecDepth 100000 in
set_option maxHeartbeats 2000000 in
theorem change_cap (B T M : Nat) (bl : ByteArray → Nat) (L : List PR) (id : ByteArray) (vS vI : Value) (lS lI : List Int) (w : World) (p : PR) (h : TabAt w B T M bl L) (hF : ∀ q ∈ L, Fine q) (hid : id.size ≤ maxLen) (hg : get L id = some p) (hx : p.exited = false)
    (hS : IntsAt w vS lS) (hI : IntsAt w vI lI) (nS : lS.length ≤ 17592186043904) (nI : lI.length ≤ 17592186043904) (hm : (setL lS && setL lI) = true) (hc : mayChange p lS lI = false) :
    Calls Tryz.prog 30 #[ptr T, .string id, .agg #[vS, vI]] w fun e w' => e = .returned (.int .i64 76) ∧ TabAt w' B T M bl L ∧ Bel B w w' := by
  obtain ⟨hpL, hpid⟩ := get_mem hg
  have hFp := hF p hpL
  obtain ⟨sS, mS, cS, rfl⟩ := hS.shape3
  obtain ⟨sI, mI, cI, rfl⟩ := hI.shape3
  obtain ⟨W, hW⟩ : ∃ W, W = w.alloc (.cells #[.slice sS mS cS, .slice sI mI cI] 32) := ⟨_, rfl⟩
  have bW : Below w.heap.size w W := by rw [hW]; exact (Below.refl _ _).alloc (Nat.le_refl _) _
  have hBw : B ≤ w.heap.size := by have := h.lowT; have := h.ltT; omega
  have hX : Boxed41 W w.heap.size (.slice sS mS cS) (.slice sI mI cI) lS lI := ⟨by rw [hW]; exact heap_alloc_new w _, hS.below bW (Nat.le_refl _), hI.below bW (Nat.le_refl _)⟩
  have hTW := h.below bW
  have hneP : ∀ q ∈ L, bl q.id ≠ w.heap.size := fun q hq => by have := h.ltP hq; omega
  have hneM : M ≠ w.heap.size := by have := h.ltM; omega
  have hneT : T ≠ w.heap.size := by have := h.ltT; omega
  have ho := of_any B T M bl L id W hTW hid
  obtain ⟨e1, e2⟩ := of_live (bl := bl) hg hx
  rw [e1, e2] at ho
  obtain ⟨vS, vI, vP, vM, hp⟩ := hTW.procs p hpL
  obtain ⟨ao0, m0, q0, hv0⟩ := hp.hS.shape3
  obtain ⟨ao1, m1, q1, hv1⟩ := hp.hI.shape3
  obtain ⟨ao2, m2, q2, hv2⟩ := hp.hP.shape3
  obtain ⟨ao3, m3, q3, hv3⟩ := hp.hM.shape3
  subst hv0 hv1 hv2 hv3
  have hgW : bl p.id < W.heap.size := hTW.ltP hpL
  -- May
  have k1 := may_any _ _ lS lI W hX.hS hX.hI nS nI
  rw [hm] at k1
  -- Change
  have k2 : ∀ W', Below W.heap.size W W' → Calls Tryz.prog 65 #[.agg #[.slice ao0 m0 q0, .slice ao1 m1 q1], .agg #[.slice sS mS cS, .slice sI mI cI], .agg #[.slice ao2 m2 q2, .slice ao3 m3 q3]] W' fun e w' => e = .returned (.bool false) ∧ Below W'.heap.size W' w' := fun W' k => by
    have := change_any _ _ _ _ _ _ p.S p.I lS lI p.Plus p.Minus W' (hp.hS.below k (Nat.le_refl _)) (hp.hI.below k (Nat.le_refl _)) (hX.hS.below k (Nat.le_refl _)) (hX.hI.below k (Nat.le_refl _)) (hp.hP.below k (Nat.le_refl _)) (hp.hM.below k (Nat.le_refl _)) hFp.lS hFp.lI nS nI hFp.lP hFp.lM
    unfold mayChange at hc
    rw [hc] at this
    exact this
  have hc : ∀ W', Below W.heap.size W W' → W'.cell? ⟨bl p.id, 2, none⟩ = some (.slice ao0 m0 q0) ∧ W'.cell? ⟨bl p.id, 3, none⟩ = some (.slice ao1 m1 q1) ∧ W'.cell? ⟨bl p.id, 4, none⟩ = some (.slice ao2 m2 q2) ∧ W'.cell? ⟨bl p.id, 5, none⟩ = some (.slice ao3 m3 q3) ∧ W'.cell? ⟨w.heap.size, 0, none⟩ = some (.slice sS mS cS) ∧ W'.cell? ⟨w.heap.size, 1, none⟩ = some (.slice sI mI cI) := fun W' k =>
    have f := fun i => k.cell (p := ⟨bl p.id, i, none⟩) hgW
    have f' := fun i => k.cell (p := ⟨w.heap.size, i, none⟩) hX.lt
    ⟨(f 2).trans (hp.cell 2), (f 3).trans (hp.cell 3), (f 4).trans (hp.cell 4), (f 5).trans (hp.cell 5), (f' 0).trans (hX.cell 0), (f' 1).trans (hX.cell 1)⟩
  obtain ⟨c2, c3, c4, c5, x0, x1⟩ := hc W (Below.refl _ _)
  have K1 := Lib.hid k1
  have K2 := Lib.hid k2
  have HC := Lib.hid hc
  have HX := Lib.hid hX
  have HT := Lib.hid hTW
  have HP := Lib.hid hp
  have HB := Lib.hid (bW.bel hBw)
  have HBW : Hid (B ≤ W.heap.size) := Nat.le_trans hBw bW.size
  have HgW := Lib.hid hgW
  have HL := Lib.hid hpL
  have HI := Lib.hid hpid
  have HF := Lib.hid hF
  have HG := Lib.hid hg
  have HneP := Lib.hid hneP
  have HneM := Lib.hid hneM
  have Hbx : Hid (w.heap.size < W.heap.size) := hX.lt
  obtain ⟨bx, hbx⟩ : ∃ bx, bx = w.heap.size := ⟨_, rfl⟩
  have Hbw : Hid (B ≤ bx) := by rw [hbx]; exact hBw
  rw [← hbx] at HC HX HneP HneM Hbx x0 x1
  clear hS hI k1 k2 hc hX hTW hp bW h e1 e2 hF hg hneP hneM hneT hm hx hpid hgW hBw
  unfold ptr at *
  obtain ⟨g, hgb⟩ : ∃ g, g = bl p.id := ⟨_, rfl⟩
  rw [← hgb] at ho HC HgW HP c2 c3 c4 c5
  have HGB := Lib.hid hgb
  clear hgb
  go_enter Tryz.func30, Tryz.ntmps30
  go_upto_region 1 with (fail)
  rw [← hW, ← hbx]
  clear hW hbx
  go_wp2_with (first
    | (go_at_call 23; refine ho.mono ?_; rintro e w1 ⟨rfl, rfl⟩)
    | (go_at_call 64; refine K1.out.mono ?_; rintro e w2 ⟨rfl, b2⟩; obtain ⟨d2, d3, d4, d5, y0, y1⟩ := HC.out w2 b2))
  have l2 : ∀ j : Lat w1, j.w.cell? ⟨g, 2, none⟩ = some (.slice ao0 m0 q0) := fun j => (HC.out j.w j.h).1
  have l3 : ∀ j : Lat w1, j.w.cell? ⟨g, 3, none⟩ = some (.slice ao1 m1 q1) := fun j => (HC.out j.w j.h).2.1
  have l4 : ∀ j : Lat w1, j.w.cell? ⟨g, 4, none⟩ = some (.slice ao2 m2 q2) := fun j => (HC.out j.w j.h).2.2.1
  have l5 : ∀ j : Lat w1, j.w.cell? ⟨g, 5, none⟩ = some (.slice ao3 m3 q3) := fun j => (HC.out j.w j.h).2.2.2.1
  have lx : ∀ j : Lat w1, j.w.cell? ⟨bx, 0, none⟩ = some (.slice sS mS cS) := fun j => (HC.out j.w j.h).2.2.2.2.1
  have ly : ∀ j : Lat w1, j.w.cell? ⟨bx, 1, none⟩ = some (.slice sI mI cI) := fun j => (HC.out j.w j.h).2.2.2.2.2
  refine wp_region_lat (W := w1) (by kernel_rfl) (by kernel_rfl) b2 ?_
  iterate 14 (go_big_quiet_step (with_reducible exact Lat.call (K2.out _ (Lat.h _))))
  refine wpQuiet_nil ?_
  rintro _ ⟨j, rfl⟩
  have hj : Below w1.heap.size w1 j.w := j.h
  have JT := Lib.hid (HT.out.below hj)
  have JB := Lib.hid (HB.out.trans (hj.bel HBW.out))
  clear l2 l3 l4 l5 lx ly d2 d3 d4 d5 y0 y1 c2 c3 c4 c5 hj
  generalize j.w = wj at *
  go_wp2
  go_ret
  exact ⟨rfl, JT.out, JB.out⟩
end Go.Proofs.YtmphnoabkmoafaaGreatDoor
