/- Drop. -/
import Derived.Test.YtmphnoabkmoafaaGreatDoorM17
namespace Go.Proofs.YtmphnoabkmoafaaGreatDoor
open Go.RowKit Go.Maps
set_option linter.unusedVariables false
variable {uu0 : Unit} [Base uu0]
set_option maxRecDepth 100000 in
theorem sets_any (a b : Value) (la lb : List Int) (w : World) (ha : IntsAt w a la) (hb : IntsAt w b lb) (hla : la.length ≤ 17592186043904) (hlb : lb.length ≤ 17592186043904) :
    Calls Tryz.prog 66 #[.agg #[a, b]] w fun e w' => e = .returned (.bool (setL la && setL lb)) ∧ Below w.heap.size w w' := by
  have hbel : Below w.heap.size w (w.alloc (.cells #[a, b] 34)) := (Below.refl _ _).alloc (Nat.le_refl _) _
  have h1 := set_any a la _ (ha.alloc (.cells #[a, b] 34)) (by omega)
  have h2 := set_any b lb _ (hb.alloc (.cells #[a, b] 34)) (by omega)
  obtain ⟨aoa, ca, rfl⟩ := ha.shape
  obtain ⟨aob, cb, rfl⟩ := hb.shape
  obtain ⟨sa, hsa⟩ : ∃ s, s = setL la := ⟨_, rfl⟩
  obtain ⟨sb, hsb⟩ : ∃ s, s = setL lb := ⟨_, rfl⟩
  rw [← hsa] at h1 ⊢
  rw [← hsb] at h2 ⊢
  have H2 := Lib.hid h2
  clear hsa hsb ha hb h2
  go_enter Tryz.func66, Tryz.ntmps66
  go_wp2_with (go_at_call 57; refine h1.mono ?_; rintro e w1 ⟨rfl, rfl⟩; replace h1 := H2.out)
  all_goals
    go_ret
    rename_i hs
    exact ⟨by simp [hs], hbel⟩
def lessP (p : PR) (lP lM : List Int) : PR := { p with Plus := lessL p.Plus lP, Minus := lessL p.Minus lM }
set_option maxRecDepth 100000 in
set_option maxHeartbeats 2000000 in
theorem drop_ok (B T M : Nat) (bl : ByteArray → Nat) (L : List PR) (id : ByteArray) (uP uM : Value) (lP lM : List Int) (w : World) (p : PR) (h : TabAt w B T M bl L) (hF : Fine p) (hid : id.size ≤ maxLen) (hg : get L id = some p) (hx : p.exited = false)
    (hP : IntsAt w uP lP) (hM : IntsAt w uM lM) (nP : lP.length ≤ 17592186043904) (nM : lM.length ≤ 17592186043904) (hm : (setL lP && setL lM) = true) :
    Calls Tryz.prog 31 #[ptr T, .string id, .agg #[uP, uM]] w fun e w' => e = .returned (.int .i64 0) ∧ TabAt w' B T M bl (updP (lessP p lP lM) L) ∧ Bel B w w' := by
  obtain ⟨hpL, hpid⟩ := get_mem hg
  obtain ⟨sS, mS, cS, rfl⟩ := hP.shape3
  obtain ⟨sI, mI, cI, rfl⟩ := hM.shape3
  obtain ⟨W, hW⟩ : ∃ W, W = w.alloc (.cells #[.slice sS mS cS, .slice sI mI cI] 34) := ⟨_, rfl⟩
  have bW : Below w.heap.size w W := by rw [hW]; exact (Below.refl _ _).alloc (Nat.le_refl _) _
  have hBw : B ≤ w.heap.size := by have := h.lowT; have := h.ltT; omega
  have hTW := h.below bW
  have ho := of_any B T M bl L id W hTW hid
  obtain ⟨e1, e2⟩ := of_live (bl := bl) hg hx
  rw [e1, e2] at ho
  obtain ⟨vS, vI, vP, vM, hp⟩ := hTW.procs p hpL
  obtain ⟨ao2, m2, q2, hv2⟩ := hp.hP.shape3
  obtain ⟨ao3, m3, q3, hv3⟩ := hp.hM.shape3
  subst hv2 hv3
  have hgW : bl p.id < W.heap.size := hTW.ltP hpL
  have hXP := hP.below bW (Nat.le_refl _)
  have hXM := hM.below bW (Nat.le_refl _)
  have hbxl : w.heap.size < W.heap.size := by rw [hW]; simp
  have k1 := sets_any _ _ lP lM W hXP hXM nP nM
  rw [hm] at k1
  have hc : ∀ W', Below W.heap.size W W' → W'.cell? ⟨bl p.id, 4, none⟩ = some (.slice ao2 m2 q2) ∧ W'.cell? ⟨bl p.id, 5, none⟩ = some (.slice ao3 m3 q3) ∧ W'.cell? ⟨w.heap.size, 0, none⟩ = some (.slice sS mS cS) ∧ W'.cell? ⟨w.heap.size, 1, none⟩ = some (.slice sI mI cI) := fun W' k =>
    have f := fun i => k.cell (p := ⟨bl p.id, i, none⟩) hgW
    have f' := fun i => k.cell (p := ⟨w.heap.size, i, none⟩) hbxl
    have row : W.heap[w.heap.size]? = some (.cells #[.slice sS mS cS, .slice sI mI cI] 34 (0, 0)) := by rw [hW]; exact heap_alloc_new w _
    ⟨(f 4).trans (hp.cell 4), (f 5).trans (hp.cell 5), (f' 0).trans (by rw [cell_of_row _ _ 0 _ 34 (0, 0) row]; rfl), (f' 1).trans (by rw [cell_of_row _ _ 1 _ 34 (0, 0) row]; rfl)⟩
  obtain ⟨c4, c5, x0, x1⟩ := hc W (Below.refl _ _)
  have k2 : ∀ W', Below W.heap.size W W' → Calls Tryz.prog 67 #[.agg #[.slice ao2 m2 q2, .slice ao3 m3 q3], .agg #[.slice sS mS cS, .slice sI mI cI]] W' fun e w' => ∃ x y, e = .returned (.agg #[x, y]) ∧ IntsAt w' x (lessL p.Plus lP) ∧ IntsAt w' y (lessL p.Minus lM) ∧ Below W'.heap.size W' w' := fun W' k =>
    less_any _ _ _ _ p.Plus p.Minus lP lM W' (hp.hP.below k (Nat.le_refl _)) (hp.hM.below k (Nat.le_refl _)) (hXP.below k (Nat.le_refl _)) (hXM.below k (Nat.le_refl _)) hF.lP hF.lM nP nM
  have K1 := Lib.hid k1
  have K2 := Lib.hid k2
  have HC := Lib.hid hc
  have HT := Lib.hid hTW
  have HP := Lib.hid hp
  have HB := Lib.hid (bW.bel hBw)
  have HBW : Hid (B ≤ W.heap.size) := Nat.le_trans hBw bW.size
  have HgW := Lib.hid hgW
  have HL := Lib.hid hpL
  obtain ⟨bx, hbx⟩ : ∃ bx, bx = w.heap.size := ⟨_, rfl⟩
  rw [← hbx] at HC x0 x1
  clear hP hM k1 k2 hc hTW hp bW h e1 e2 hF hg hm hx hpid hgW hBw hXP hXM hbxl
  unfold ptr at *
  obtain ⟨g, hgb⟩ : ∃ g, g = bl p.id := ⟨_, rfl⟩
  rw [← hgb] at ho HC HgW HP c4 c5
  have HGB := Lib.hid hgb
  clear hgb
  go_enter Tryz.func31, Tryz.ntmps31
  go_upto_region 1 with (fail)
  rw [← hW, ← hbx]
  clear hW hbx
  go_wp2_with (first
    | (go_at_call 23; refine ho.mono ?_; rintro e w1 ⟨rfl, rfl⟩)
    | (go_at_call 66; refine K1.out.mono ?_; rintro e w2 ⟨rfl, b2⟩; have B2 := Lib.hid b2; obtain ⟨d4, d5, y0, y1⟩ := HC.out w2 b2; obtain ⟨d4', d5', y0', y1'⟩ := HC.out w2.drew b2.drew))
  clear c4 c5 x0 x1
  go_region_with (go_at_call 67; refine (K2.out _ (by first | exact B2.out.drew | exact B2.out)).mono ?_; rintro e w3 ⟨u1, u2, rfl, i1, i2, b3⟩; obtain ⟨ao4, m4, q4, rfl⟩ := i1.shape3; obtain ⟨ao5, m5, q5, rfl⟩ := i2.shape3; have S3 : Hid (Below w1.heap.size w1 w3) := (by first | exact B2.out.drew.trans (b3.mono B2.out.size) | exact B2.out.trans (b3.mono B2.out.size)); have P3 := Lib.hid (HP.out.keep (Keep3.of_below S3.out) (S3.out.block _ HgW.out)); have g4 : w3.frozen? ⟨g, 4, none⟩ = false := P3.out.frozen 4; have r4 : w3.cell? ⟨g, 4, none⟩ = some (.slice ao2 m2 q2) := P3.out.cell 4; have A2 := Lib.hid ((At66.start P3.out.row).set 4 (.slice ao4 m4 q4)); have g5 : (w3.setCell ⟨g, 4, none⟩ (.slice ao4 m4 q4)).frozen? ⟨g, 5, none⟩ = false := A2.out.frozen 5; have r5 : (w3.setCell ⟨g, 4, none⟩ (.slice ao4 m4 q4)).cell? ⟨g, 5, none⟩ = some (.slice ao3 m3 q3) := A2.out.cell 5)
  all_goals
    have A4 : At66 w3 ((w3.setCell ⟨g, 4, none⟩ (.slice ao4 m4 q4)).setCell ⟨g, 5, none⟩ (.slice ao5 m5 q5)) (bl p.id) ((lessP p lP lM).cells vS vI (.slice ao4 m4 q4) (.slice ao5 m5 q5)) := by rw [← HGB.out]; exact A2.out.set 5 _
    obtain ⟨hT4, hB4⟩ := (HT.out.below S3.out).at66 (p' := lessP p lP lM) HL.out rfl A4 P3.out.hS P3.out.hI i1 i2
    have HT4 := Lib.hid hT4
    have HB4 := Lib.hid ((HB.out.trans (S3.out.bel HBW.out)).trans hB4)
    clear hT4 hB4 A4
    go_wp2
    go_ret
    first
      | exact ⟨rfl, HT4.out, HB4.out⟩
      | exact ⟨rfl, HT4.out.below ((Below.refl _ _).drew), HB4.out.drew⟩
end Go.Proofs.YtmphnoabkmoafaaGreatDoor
