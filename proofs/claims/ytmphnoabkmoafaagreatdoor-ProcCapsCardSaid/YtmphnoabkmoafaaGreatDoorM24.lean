/- Tag. -/
import Derived.Laws.RangeString
import Derived.Laws.RangeAny
import Derived.Test.YtmphnoabkmoafaaGreatDoorM16
namespace Go.Proofs.YtmphnoabkmoafaaGreatDoor
open Go.RowKit Go.Maps
set_option linter.unusedVariables false
variable {uu0 : Unit} [Base uu0]
def numTo (s : ByteArray) : Nat → Nat
  | 0 => 0
  | k + 1 => if h : k < s.size then (if (s[k]'h).toNat = 46 then numTo s k else 10 * numTo s k + ((s[k]'h).toNat - 48)) else numTo s k
theorem numTo_lt (s : ByteArray) (hs : ∀ (i : Nat) (h : i < s.size), (s[i]'h).toNat = 46 ∨ 49 ≤ (s[i]'h).toNat ∧ (s[i]'h).toNat ≤ 57) : ∀ k, numTo s k < 10 ^ k
  | 0 => by simp [numTo]
  | k + 1 => by
    have ih := numTo_lt s hs k
    have hp : 10 ^ (k + 1) = 10 * 10 ^ k := by rw [Nat.pow_succ]; omega
    unfold numTo
    split
    · rename_i h
      rcases hs k h with e | ⟨e1, e2⟩
      · rw [if_pos e]; omega
      · rw [if_neg (by omega)]; omega
    · omega
def tagN (p : PR) : Int := 10 * (numTo p.id p.id.size : Nat) + p.tags + 1
def tagP (p : PR) : PR := { p with tags := p.tags + 1, Plus := joinL p.Plus [tagN p], Minus := joinL p.Minus [tagN p] }
def tagOk (p : PR) : Bool := decide (p.tags < 9) && joinOk p.Plus [tagN p] && joinOk p.Minus [tagN p]
theorem numTo_small {p : PR} (h : Fine p) : numTo p.id p.id.size < 1000000000000000 := by
  have h1 := numTo_lt p.id h.idc p.id.size
  have h2 : 10 ^ p.id.size ≤ 10 ^ 15 := Nat.pow_le_pow_right (by omega) h.id1
  have h3 : (10 : Nat) ^ 15 = 1000000000000000 := by decide
  omega
set_option maxRecDepth 100000 in
set_option maxHeartbeats 1000000 in
theorem tag_ok (B T M : Nat) (bl : ByteArray → Nat) (L : List PR) (id : ByteArray) (w : World) (p : PR) (h : TabAt w B T M bl L) (hF : Fine p) (hg : get L id = some p) (hx : p.exited = false) (hk : tagOk p = true) :
    Calls Tryz.prog 7 #[ptr T, .string id] w fun e w' => e = .returned (.tuple #[.int .i64 (tagN p), .int .i64 0]) ∧ TabAt w' B T M bl (updP (tagP p) L) ∧ Bel B w w' := by
  obtain ⟨hpL, hpid⟩ := get_mem hg
  have hi15 := hF.id1
  rw [hpid] at hi15
  have ho := of_any B T M bl L id w h (by unfold maxLen; omega)
  obtain ⟨e1, e2⟩ := of_live (bl := bl) hg hx
  rw [e1, e2] at ho
  obtain ⟨vS, vI, vP, vM, hp⟩ := h.procs p hpL
  obtain ⟨N, hN⟩ : ∃ N, N = numTo id id.size := ⟨_, rfl⟩
  have hNs := numTo_small hF
  have hic := hF.idc
  have hnl := numTo_lt p.id hF.idc
  rw [hpid] at hNs hic hnl
  rw [← hN] at hNs
  unfold tagOk at hk
  simp only [Bool.and_eq_true, decide_eq_true_eq] at hk
  obtain ⟨⟨k1, k2⟩, k3⟩ := hk
  have ht0 := hF.t0
  have etn : tagN p = 10 * (N : Int) + p.tags + 1 := by unfold tagN; rw [hpid, ← hN]
  obtain ⟨ao2, m2, q2, hv2⟩ := hp.hP.shape3
  obtain ⟨ao3, m3, q3, hv3⟩ := hp.hM.shape3
  subst hv2 hv3
  obtain ⟨W, hW⟩ : ∃ W, W = w.iter id id.size := ⟨_, rfl⟩
  have bW : Below w.heap.size w W := by rw [hW]; exact (Below.refl _ _).alloc (Nat.le_refl _) _
  have hTW := h.below bW
  obtain ⟨vS', vI', vP', vM', hpW⟩ := hTW.procs p hpL
  have hpW : ProcAt W (bl p.id) p vS vI (.slice ao2 m2 q2) (.slice ao3 m3 q3) := hp.keep (Keep3.of_below bW) (bW.block _ (h.ltP hpL))
  have hgW := hTW.ltP hpL
  have HC : Hid (∀ W', Below W.heap.size W W' → W'.cell? ⟨bl p.id, 4, none⟩ = some (.slice ao2 m2 q2) ∧ W'.cell? ⟨bl p.id, 5, none⟩ = some (.slice ao3 m3 q3) ∧ W'.cell? ⟨bl p.id, 10, none⟩ = some (.int .i64 p.tags) ∧ W'.frozen? ⟨bl p.id, 4, none⟩ = false ∧ W'.frozen? ⟨bl p.id, 5, none⟩ = false ∧ W'.frozen? ⟨bl p.id, 10, none⟩ = false) := fun W' k =>
    have f := fun i => k.cell (p := ⟨bl p.id, i, none⟩) hgW
    have f' := fun i => k.frozen (p := ⟨bl p.id, i, none⟩) hgW
    ⟨(f 4).trans (hpW.cell 4), (f 5).trans (hpW.cell 5), (f 10).trans (hpW.cell 10), (f' 4).trans (hpW.frozen 4), (f' 5).trans (hpW.frozen 5), (f' 10).trans (hpW.frozen 10)⟩
  have HP := Lib.hid hpW
  have HT := Lib.hid hTW
  have hBw : B ≤ w.heap.size := by have := h.lowT; have := h.ltT; omega
  have HB := Lib.hid (bW.bel hBw)
  have hn1 : -9223372036854775808 ≤ 10 * (N : Int) + p.tags + 1 := by omega
  unfold ptr at *
  generalize hb : bl p.id = g at *
  generalize ht : p.tags = t at *
  rw [etn] at k2 k3 ⊢
  have HL := Lib.hid hpL
  have HE := Lib.hid etn
  have HgW := Lib.hid hgW
  have HBW : Hid (B ≤ W.heap.size) := Nat.le_trans hBw bW.size
  have d9 : decide (t ≥ 9) = false := by simp; omega
  clear hp hpW hTW h e1 e2 bW hgW
  go_enter Tryz.func7, Tryz.ntmps7
  go_wp2_with (go_at_call 23; refine ho.mono ?_; rintro e w1 ⟨rfl, rfl⟩)
  go_loopw [8, 10] (fun n _ wr => ∃ pos, pos ≤ id.size ∧ n = .int .i64 (numTo id pos) ∧ wr = w1.iter id pos) (fun _ _ wr => id.size - wr.iterPos w1.heap.size)
  case atStart => exact ⟨0, by omega, rfl, rfl⟩
  case round =>
    obtain ⟨pos, hpos, rfl, rfl⟩ := hrel
    by_cases hlt : pos < id.size
    · have hcc := hic pos hlt
      have hn := fun ty => run_next_ascii (P := Tryz.prog) w1 id pos ty hlt (by omega)
      have hnum := hnl pos
      have hp15 : (10 : Nat) ^ pos ≤ 10 ^ 14 := Nat.pow_le_pow_right (by omega) (by omega)
      have h14 : (10 : Nat) ^ 14 = 100000000000000 := by decide
      have hstep : numTo id (pos + 1) = if (id[pos]'hlt).toNat = 46 then numTo id pos else 10 * numTo id pos + ((id[pos]'hlt).toNat - 48) := by rw [numTo, dif_pos hlt]
      obtain ⟨c, hc⟩ : ∃ c : Nat, c = (id[pos]'hlt).toNat := ⟨_, rfl⟩
      rw [← hc] at hcc hstep
      simp only [← hc] at hn
      clear hc
      obtain ⟨x, hx⟩ : ∃ x, x = numTo id pos := ⟨_, rfl⟩
      rw [← hx] at hnum hstep ⊢
      have hxs : x < 100000000000000 := by omega
      clear hx hnum hp15 h14 hnl hic
      by_cases h46 : c = 46
      · subst h46
        rw [if_pos rfl] at hstep
        go_wp2
        go_roundw
        case rel => exact ⟨pos + 1, by omega, by rw [hstep], rfl⟩
        case measure => rw [World.iterPos_iter, World.iterPos_iter]; omega
      · rw [if_neg h46] at hstep
        have d1 : ((c : Int) != 46) = true := by simp; omega
        have hc1 : 49 ≤ c ∧ c ≤ 57 := by omega
        obtain ⟨hc1, hc2⟩ := hc1
        clear hcc
        go_wp2
        go_roundw
        case rel => exact ⟨pos + 1, by omega, by rw [hstep]; congr 1; omega, rfl⟩
        case measure => rw [World.iterPos_iter, World.iterPos_iter]; omega
    · have hn := fun ty => run_next_end (P := Tryz.prog) w1 id pos ty hlt
      obtain rfl : pos = id.size := by omega
      rw [← hN, ← hW] 
      rw [← hW] at hn
      clear hW hN etn
      obtain ⟨G0⟩ : Nonempty Nat := ⟨0⟩
      obtain ⟨z4, z5, z10, y4, y5, y10⟩ := HC.out W (Below.refl _ _)
      clear hic hnl
      clear hn1
      obtain ⟨n, hn1⟩ : ∃ n, n = 10 * (N : Int) + t + 1 := ⟨_, rfl⟩
      have C1 : Hid (∀ W', Below W.heap.size W W' → Calls Tryz.prog 24 #[.slice ao2 m2 q2, .slice (some ⟨W'.heap.size, 0, none⟩) 1 1] (W'.alloc (.cells #[.int .i64 (10 * (N : Int) + t + 1)] 3)) fun e w' => ∃ v', e = .returned (.tuple #[v', .bool true]) ∧ IntsAt w' v' (joinL p.Plus [n]) ∧ Below W.heap.size W w') := fun W' k => by
        have a1 := k.alloc k.size (.cells #[.int .i64 (10 * (N : Int) + t + 1)] 3)
        have c := join_any (.slice ao2 m2 q2) (.slice (some ⟨W'.heap.size, 0, none⟩) 1 1) p.Plus [10 * (N : Int) + t + 1] _ (HP.out.hP.below a1 (Nat.le_refl _)) (IntsAt.new W' 3 [10 * (N : Int) + t + 1] (by simp)) hF.lP (by simp)
        rw [k2] at c
        refine c.mono ?_
        rintro e w' ⟨v', rfl, i, b⟩
        exact ⟨v', rfl, by rw [hn1]; exact i, a1.trans (b.mono a1.size)⟩
      have C2 : Hid (∀ W', Below W.heap.size W W' → Calls Tryz.prog 24 #[.slice ao3 m3 q3, .slice (some ⟨W'.heap.size, 0, none⟩) 1 1] (W'.alloc (.cells #[.int .i64 (10 * (N : Int) + t + 1)] 3)) fun e w' => ∃ v', e = .returned (.tuple #[v', .bool true]) ∧ IntsAt w' v' (joinL p.Minus [n]) ∧ Below W'.heap.size W' w') := fun W' k => by
        have a1 := k.alloc k.size (.cells #[.int .i64 (10 * (N : Int) + t + 1)] 3)
        have a2 := (Below.refl W'.heap.size W').alloc (Nat.le_refl _) (.cells #[.int .i64 (10 * (N : Int) + t + 1)] 3)
        have c := join_any (.slice ao3 m3 q3) (.slice (some ⟨W'.heap.size, 0, none⟩) 1 1) p.Minus [10 * (N : Int) + t + 1] _ (HP.out.hM.below a1 (Nat.le_refl _)) (IntsAt.new W' 3 [10 * (N : Int) + t + 1] (by simp)) hF.lM (by simp)
        rw [k3] at c
        refine c.mono ?_
        rintro e w' ⟨v', rfl, i, b⟩
        exact ⟨v', rfl, by rw [hn1]; exact i, a2.trans (b.mono a2.size)⟩
      have Hn1 := Lib.hid hn1
      clear hn1
      go_wp2_with (first
        | (go_at_call 24; have G1 := G0; clear G0; refine (C1.out W (Below.refl _ _)).mono ?_; rintro e w2 ⟨v1, rfl, i1, j1⟩; obtain ⟨z4', z5', z10', y4', y5', y10'⟩ := HC.out w2 j1; obtain ⟨ao4, m4, q4, rfl⟩ := i1.shape3)
        | (go_at_call 24; have G2 := G1; clear G1; refine (C2.out w2 j1).mono ?_; rintro e w3 ⟨v2, rfl, i2, b2⟩; have j2 := j1.trans (b2.mono j1.size); obtain ⟨z4'', z5'', z10'', y4'', y5'', y10''⟩ := HC.out w3 j2; obtain ⟨ao5, m5, q5, rfl⟩ := i2.shape3; have i12 := i1.below b2 (Nat.le_refl _)))
      go_ret2
      have hT3 := HT.out.below j2
      have hp3 : ProcAt w3 g p vS vI (.slice ao2 m2 q2) (.slice ao3 m3 q3) := HP.out.keep (Keep3.of_below j2) (j2.block _ HgW.out)
      have hA := (((At66.start hp3.row).set 10 (.int .i64 (t + 1))).set 4 (.slice ao4 m4 q4)).set 5 (.slice ao5 m5 q5)
      have eA : (((p.cells vS vI (.slice ao2 m2 q2) (.slice ao3 m3 q3)).setIfInBounds 10 (.int .i64 (t + 1))).setIfInBounds 4 (.slice ao4 m4 q4)).setIfInBounds 5 (.slice ao5 m5 q5) = (tagP p).cells vS vI (.slice ao4 m4 q4) (.slice ao5 m5 q5) := by rw [← ht]; rfl
      rw [eA, ← hb] at hA
      obtain ⟨f1, f2⟩ := hT3.at66 (p' := tagP p) HL.out rfl hA hp3.hS hp3.hI (by show IntsAt w3 _ (joinL p.Plus [tagN p]); rw [HE.out, ← Hn1.out]; exact i12) (by show IntsAt w3 _ (joinL p.Minus [tagN p]); rw [HE.out, ← Hn1.out]; exact i2)
      rw [hb] at f1 f2
      exact ⟨rfl, f1, (HB.out.trans (j2.bel HBW.out)).trans f2⟩
set_option maxRecDepth 100000 in
set_option maxHeartbeats 1000000 in
theorem tag_many1 (B T M : Nat) (bl : ByteArray → Nat) (L : List PR) (id : ByteArray) (w : World) (p : PR) (h : TabAt w B T M bl L) (hF : Fine p) (hg : get L id = some p) (hx : p.exited = false) (b1 b2 : Bool) (k1 : 9 ≤ p.tags) (k2 : joinOk p.Plus [tagN p] = b1) (k3 : joinOk p.Minus [tagN p] = b2) :
    Calls Tryz.prog 7 #[ptr T, .string id] w fun e w' => e = .returned (.tuple #[.int .i64 0, .int .i64 65]) ∧ TabAt w' B T M bl L ∧ Bel B w w' := by
  obtain ⟨hpL, hpid⟩ := get_mem hg
  have hi15 := hF.id1
  rw [hpid] at hi15
  have ho := of_any B T M bl L id w h (by unfold maxLen; omega)
  obtain ⟨e1, e2⟩ := of_live (bl := bl) hg hx
  rw [e1, e2] at ho
  obtain ⟨vS, vI, vP, vM, hp⟩ := h.procs p hpL
  obtain ⟨N, hN⟩ : ∃ N, N = numTo id id.size := ⟨_, rfl⟩
  have hNs := numTo_small hF
  have hic := hF.idc
  have hnl := numTo_lt p.id hF.idc
  rw [hpid] at hNs hic hnl
  rw [← hN] at hNs
  have ht1 := hF.t1
  have ht0 := hF.t0
  have etn : tagN p = 10 * (N : Int) + p.tags + 1 := by unfold tagN; rw [hpid, ← hN]
  obtain ⟨ao2, m2, q2, hv2⟩ := hp.hP.shape3
  obtain ⟨ao3, m3, q3, hv3⟩ := hp.hM.shape3
  subst hv2 hv3
  obtain ⟨W, hW⟩ : ∃ W, W = w.iter id id.size := ⟨_, rfl⟩
  have bW : Below w.heap.size w W := by rw [hW]; exact (Below.refl _ _).alloc (Nat.le_refl _) _
  have hTW := h.below bW
  obtain ⟨vS', vI', vP', vM', hpW⟩ := hTW.procs p hpL
  have hpW : ProcAt W (bl p.id) p vS vI (.slice ao2 m2 q2) (.slice ao3 m3 q3) := hp.keep (Keep3.of_below bW) (bW.block _ (h.ltP hpL))
  have hgW := hTW.ltP hpL
  have HC : Hid (∀ W', Below W.heap.size W W' → W'.cell? ⟨bl p.id, 4, none⟩ = some (.slice ao2 m2 q2) ∧ W'.cell? ⟨bl p.id, 5, none⟩ = some (.slice ao3 m3 q3) ∧ W'.cell? ⟨bl p.id, 10, none⟩ = some (.int .i64 p.tags) ∧ W'.frozen? ⟨bl p.id, 4, none⟩ = false ∧ W'.frozen? ⟨bl p.id, 5, none⟩ = false ∧ W'.frozen? ⟨bl p.id, 10, none⟩ = false) := fun W' k =>
    have f := fun i => k.cell (p := ⟨bl p.id, i, none⟩) hgW
    have f' := fun i => k.frozen (p := ⟨bl p.id, i, none⟩) hgW
    ⟨(f 4).trans (hpW.cell 4), (f 5).trans (hpW.cell 5), (f 10).trans (hpW.cell 10), (f' 4).trans (hpW.frozen 4), (f' 5).trans (hpW.frozen 5), (f' 10).trans (hpW.frozen 10)⟩
  have HP := Lib.hid hpW
  have HT := Lib.hid hTW
  have hBw : B ≤ w.heap.size := by have := h.lowT; have := h.ltT; omega
  have HB := Lib.hid (bW.bel hBw)
  have hn1 : -9223372036854775808 ≤ 10 * (N : Int) + p.tags + 1 := by omega
  unfold ptr at *
  generalize hb : bl p.id = g at *
  generalize ht : p.tags = t at *
  rw [etn] at k2 k3
  have HL := Lib.hid hpL
  have HE := Lib.hid etn
  have HgW := Lib.hid hgW
  have HBW : Hid (B ≤ W.heap.size) := Nat.le_trans hBw bW.size
  have d9 : decide (t ≥ 9) = true := by simp; omega
  clear hp hpW hTW h e1 e2 bW hgW
  go_enter Tryz.func7, Tryz.ntmps7
  go_wp2_with (go_at_call 23; refine ho.mono ?_; rintro e w1 ⟨rfl, rfl⟩)
  go_loopw [8, 10] (fun n _ wr => ∃ pos, pos ≤ id.size ∧ n = .int .i64 (numTo id pos) ∧ wr = w1.iter id pos) (fun _ _ wr => id.size - wr.iterPos w1.heap.size)
  case atStart => exact ⟨0, by omega, rfl, rfl⟩
  case round =>
    obtain ⟨pos, hpos, rfl, rfl⟩ := hrel
    by_cases hlt : pos < id.size
    · have hcc := hic pos hlt
      have hn := fun ty => run_next_ascii (P := Tryz.prog) w1 id pos ty hlt (by omega)
      have hnum := hnl pos
      have hp15 : (10 : Nat) ^ pos ≤ 10 ^ 14 := Nat.pow_le_pow_right (by omega) (by omega)
      have h14 : (10 : Nat) ^ 14 = 100000000000000 := by decide
      have hstep : numTo id (pos + 1) = if (id[pos]'hlt).toNat = 46 then numTo id pos else 10 * numTo id pos + ((id[pos]'hlt).toNat - 48) := by rw [numTo, dif_pos hlt]
      obtain ⟨c, hc⟩ : ∃ c : Nat, c = (id[pos]'hlt).toNat := ⟨_, rfl⟩
      rw [← hc] at hcc hstep
      simp only [← hc] at hn
      clear hc
      obtain ⟨x, hx⟩ : ∃ x, x = numTo id pos := ⟨_, rfl⟩
      rw [← hx] at hnum hstep ⊢
      have hxs : x < 100000000000000 := by omega
      clear hx hnum hp15 h14 hnl hic
      by_cases h46 : c = 46
      · subst h46
        rw [if_pos rfl] at hstep
        go_wp2
        go_roundw
        case rel => exact ⟨pos + 1, by omega, by rw [hstep], rfl⟩
        case measure => rw [World.iterPos_iter, World.iterPos_iter]; omega
      · rw [if_neg h46] at hstep
        have d1 : ((c : Int) != 46) = true := by simp; omega
        have hc1 : 49 ≤ c ∧ c ≤ 57 := by omega
        obtain ⟨hc1, hc2⟩ := hc1
        clear hcc
        go_wp2
        go_roundw
        case rel => exact ⟨pos + 1, by omega, by rw [hstep]; congr 1; omega, rfl⟩
        case measure => rw [World.iterPos_iter, World.iterPos_iter]; omega
    · have hn := fun ty => run_next_end (P := Tryz.prog) w1 id pos ty hlt
      obtain rfl : pos = id.size := by omega
      rw [← hN, ← hW] 
      rw [← hW] at hn
      clear hW hN etn
      obtain ⟨G0⟩ : Nonempty Nat := ⟨0⟩
      obtain ⟨z4, z5, z10, y4, y5, y10⟩ := HC.out W (Below.refl _ _)
      clear hic hnl
      clear hn1
      obtain ⟨n, hn1⟩ : ∃ n, n = 10 * (N : Int) + t + 1 := ⟨_, rfl⟩
      have C1 : Hid (∀ W', Below W.heap.size W W' → Calls Tryz.prog 24 #[.slice ao2 m2 q2, .slice (some ⟨W'.heap.size, 0, none⟩) 1 1] (W'.alloc (.cells #[.int .i64 (10 * (N : Int) + t + 1)] 3)) fun e w' => ∃ v', e = .returned (.tuple #[v', .bool b1]) ∧ IntsAt w' v' (joinL p.Plus [n]) ∧ Below W.heap.size W w') := fun W' k => by
        have a1 := k.alloc k.size (.cells #[.int .i64 (10 * (N : Int) + t + 1)] 3)
        have c := join_any (.slice ao2 m2 q2) (.slice (some ⟨W'.heap.size, 0, none⟩) 1 1) p.Plus [10 * (N : Int) + t + 1] _ (HP.out.hP.below a1 (Nat.le_refl _)) (IntsAt.new W' 3 [10 * (N : Int) + t + 1] (by simp)) hF.lP (by simp)
        rw [k2] at c
        refine c.mono ?_
        rintro e w' ⟨v', rfl, i, b⟩
        exact ⟨v', rfl, by rw [hn1]; exact i, a1.trans (b.mono a1.size)⟩
      have C2 : Hid (∀ W', Below W.heap.size W W' → Calls Tryz.prog 24 #[.slice ao3 m3 q3, .slice (some ⟨W'.heap.size, 0, none⟩) 1 1] (W'.alloc (.cells #[.int .i64 (10 * (N : Int) + t + 1)] 3)) fun e w' => ∃ v', e = .returned (.tuple #[v', .bool b2]) ∧ IntsAt w' v' (joinL p.Minus [n]) ∧ Below W'.heap.size W' w') := fun W' k => by
        have a1 := k.alloc k.size (.cells #[.int .i64 (10 * (N : Int) + t + 1)] 3)
        have a2 := (Below.refl W'.heap.size W').alloc (Nat.le_refl _) (.cells #[.int .i64 (10 * (N : Int) + t + 1)] 3)
        have c := join_any (.slice ao3 m3 q3) (.slice (some ⟨W'.heap.size, 0, none⟩) 1 1) p.Minus [10 * (N : Int) + t + 1] _ (HP.out.hM.below a1 (Nat.le_refl _)) (IntsAt.new W' 3 [10 * (N : Int) + t + 1] (by simp)) hF.lM (by simp)
        rw [k3] at c
        refine c.mono ?_
        rintro e w' ⟨v', rfl, i, b⟩
        exact ⟨v', rfl, by rw [hn1]; exact i, a2.trans (b.mono a2.size)⟩
      have Hn1 := Lib.hid hn1
      clear hn1
      go_wp2_with (first
        | (go_at_call 24; have G1 := G0; clear G0; refine (C1.out W (Below.refl _ _)).mono ?_; rintro e w2 ⟨v1, rfl, i1, j1⟩; obtain ⟨z4', z5', z10', y4', y5', y10'⟩ := HC.out w2 j1; obtain ⟨ao4, m4, q4, rfl⟩ := i1.shape3)
        | (go_at_call 24; have G2 := G1; clear G1; refine (C2.out w2 j1).mono ?_; rintro e w3 ⟨v2, rfl, i2, b2⟩; have j2 := j1.trans (b2.mono j1.size); obtain ⟨z4'', z5'', z10'', y4'', y5'', y10''⟩ := HC.out w3 j2; obtain ⟨ao5, m5, q5, rfl⟩ := i2.shape3; have i12 := i1.below b2 (Nat.le_refl _)))
      go_ret2
      exact ⟨rfl, HT.out.below j2, HB.out.trans (j2.bel HBW.out)⟩
set_option maxRecDepth 100000 in
set_option maxHeartbeats 1000000 in
theorem tag_many2 (B T M : Nat) (bl : ByteArray → Nat) (L : List PR) (id : ByteArray) (w : World) (p : PR) (h : TabAt w B T M bl L) (hF : Fine p) (hg : get L id = some p) (hx : p.exited = false) (b2 : Bool) (k1 : p.tags < 9) (k2 : joinOk p.Plus [tagN p] = false) (k3 : joinOk p.Minus [tagN p] = b2) :
    Calls Tryz.prog 7 #[ptr T, .string id] w fun e w' => e = .returned (.tuple #[.int .i64 0, .int .i64 65]) ∧ TabAt w' B T M bl L ∧ Bel B w w' := by
  obtain ⟨hpL, hpid⟩ := get_mem hg
  have hi15 := hF.id1
  rw [hpid] at hi15
  have ho := of_any B T M bl L id w h (by unfold maxLen; omega)
  obtain ⟨e1, e2⟩ := of_live (bl := bl) hg hx
  rw [e1, e2] at ho
  obtain ⟨vS, vI, vP, vM, hp⟩ := h.procs p hpL
  obtain ⟨N, hN⟩ : ∃ N, N = numTo id id.size := ⟨_, rfl⟩
  have hNs := numTo_small hF
  have hic := hF.idc
  have hnl := numTo_lt p.id hF.idc
  rw [hpid] at hNs hic hnl
  rw [← hN] at hNs
  have ht1 := hF.t1
  have ht0 := hF.t0
  have etn : tagN p = 10 * (N : Int) + p.tags + 1 := by unfold tagN; rw [hpid, ← hN]
  obtain ⟨ao2, m2, q2, hv2⟩ := hp.hP.shape3
  obtain ⟨ao3, m3, q3, hv3⟩ := hp.hM.shape3
  subst hv2 hv3
  obtain ⟨W, hW⟩ : ∃ W, W = w.iter id id.size := ⟨_, rfl⟩
  have bW : Below w.heap.size w W := by rw [hW]; exact (Below.refl _ _).alloc (Nat.le_refl _) _
  have hTW := h.below bW
  obtain ⟨vS', vI', vP', vM', hpW⟩ := hTW.procs p hpL
  have hpW : ProcAt W (bl p.id) p vS vI (.slice ao2 m2 q2) (.slice ao3 m3 q3) := hp.keep (Keep3.of_below bW) (bW.block _ (h.ltP hpL))
  have hgW := hTW.ltP hpL
  have HC : Hid (∀ W', Below W.heap.size W W' → W'.cell? ⟨bl p.id, 4, none⟩ = some (.slice ao2 m2 q2) ∧ W'.cell? ⟨bl p.id, 5, none⟩ = some (.slice ao3 m3 q3) ∧ W'.cell? ⟨bl p.id, 10, none⟩ = some (.int .i64 p.tags) ∧ W'.frozen? ⟨bl p.id, 4, none⟩ = false ∧ W'.frozen? ⟨bl p.id, 5, none⟩ = false ∧ W'.frozen? ⟨bl p.id, 10, none⟩ = false) := fun W' k =>
    have f := fun i => k.cell (p := ⟨bl p.id, i, none⟩) hgW
    have f' := fun i => k.frozen (p := ⟨bl p.id, i, none⟩) hgW
    ⟨(f 4).trans (hpW.cell 4), (f 5).trans (hpW.cell 5), (f 10).trans (hpW.cell 10), (f' 4).trans (hpW.frozen 4), (f' 5).trans (hpW.frozen 5), (f' 10).trans (hpW.frozen 10)⟩
  have HP := Lib.hid hpW
  have HT := Lib.hid hTW
  have hBw : B ≤ w.heap.size := by have := h.lowT; have := h.ltT; omega
  have HB := Lib.hid (bW.bel hBw)
  have hn1 : -9223372036854775808 ≤ 10 * (N : Int) + p.tags + 1 := by omega
  unfold ptr at *
  generalize hb : bl p.id = g at *
  generalize ht : p.tags = t at *
  rw [etn] at k2 k3
  have HL := Lib.hid hpL
  have HE := Lib.hid etn
  have HgW := Lib.hid hgW
  have HBW : Hid (B ≤ W.heap.size) := Nat.le_trans hBw bW.size
  have d9 : decide (t ≥ 9) = false := by simp; omega
  clear hp hpW hTW h e1 e2 bW hgW
  go_enter Tryz.func7, Tryz.ntmps7
  go_wp2_with (go_at_call 23; refine ho.mono ?_; rintro e w1 ⟨rfl, rfl⟩)
  go_loopw [8, 10] (fun n _ wr => ∃ pos, pos ≤ id.size ∧ n = .int .i64 (numTo id pos) ∧ wr = w1.iter id pos) (fun _ _ wr => id.size - wr.iterPos w1.heap.size)
  case atStart => exact ⟨0, by omega, rfl, rfl⟩
  case round =>
    obtain ⟨pos, hpos, rfl, rfl⟩ := hrel
    by_cases hlt : pos < id.size
    · have hcc := hic pos hlt
      have hn := fun ty => run_next_ascii (P := Tryz.prog) w1 id pos ty hlt (by omega)
      have hnum := hnl pos
      have hp15 : (10 : Nat) ^ pos ≤ 10 ^ 14 := Nat.pow_le_pow_right (by omega) (by omega)
      have h14 : (10 : Nat) ^ 14 = 100000000000000 := by decide
      have hstep : numTo id (pos + 1) = if (id[pos]'hlt).toNat = 46 then numTo id pos else 10 * numTo id pos + ((id[pos]'hlt).toNat - 48) := by rw [numTo, dif_pos hlt]
      obtain ⟨c, hc⟩ : ∃ c : Nat, c = (id[pos]'hlt).toNat := ⟨_, rfl⟩
      rw [← hc] at hcc hstep
      simp only [← hc] at hn
      clear hc
      obtain ⟨x, hx⟩ : ∃ x, x = numTo id pos := ⟨_, rfl⟩
      rw [← hx] at hnum hstep ⊢
      have hxs : x < 100000000000000 := by omega
      clear hx hnum hp15 h14 hnl hic
      by_cases h46 : c = 46
      · subst h46
        rw [if_pos rfl] at hstep
        go_wp2
        go_roundw
        case rel => exact ⟨pos + 1, by omega, by rw [hstep], rfl⟩
        case measure => rw [World.iterPos_iter, World.iterPos_iter]; omega
      · rw [if_neg h46] at hstep
        have d1 : ((c : Int) != 46) = true := by simp; omega
        have hc1 : 49 ≤ c ∧ c ≤ 57 := by omega
        obtain ⟨hc1, hc2⟩ := hc1
        clear hcc
        go_wp2
        go_roundw
        case rel => exact ⟨pos + 1, by omega, by rw [hstep]; congr 1; omega, rfl⟩
        case measure => rw [World.iterPos_iter, World.iterPos_iter]; omega
    · have hn := fun ty => run_next_end (P := Tryz.prog) w1 id pos ty hlt
      obtain rfl : pos = id.size := by omega
      rw [← hN, ← hW] 
      rw [← hW] at hn
      clear hW hN etn
      obtain ⟨G0⟩ : Nonempty Nat := ⟨0⟩
      obtain ⟨z4, z5, z10, y4, y5, y10⟩ := HC.out W (Below.refl _ _)
      clear hic hnl
      clear hn1
      obtain ⟨n, hn1⟩ : ∃ n, n = 10 * (N : Int) + t + 1 := ⟨_, rfl⟩
      have C1 : Hid (∀ W', Below W.heap.size W W' → Calls Tryz.prog 24 #[.slice ao2 m2 q2, .slice (some ⟨W'.heap.size, 0, none⟩) 1 1] (W'.alloc (.cells #[.int .i64 (10 * (N : Int) + t + 1)] 3)) fun e w' => ∃ v', e = .returned (.tuple #[v', .bool false]) ∧ IntsAt w' v' (joinL p.Plus [n]) ∧ Below W.heap.size W w') := fun W' k => by
        have a1 := k.alloc k.size (.cells #[.int .i64 (10 * (N : Int) + t + 1)] 3)
        have c := join_any (.slice ao2 m2 q2) (.slice (some ⟨W'.heap.size, 0, none⟩) 1 1) p.Plus [10 * (N : Int) + t + 1] _ (HP.out.hP.below a1 (Nat.le_refl _)) (IntsAt.new W' 3 [10 * (N : Int) + t + 1] (by simp)) hF.lP (by simp)
        rw [k2] at c
        refine c.mono ?_
        rintro e w' ⟨v', rfl, i, b⟩
        exact ⟨v', rfl, by rw [hn1]; exact i, a1.trans (b.mono a1.size)⟩
      have C2 : Hid (∀ W', Below W.heap.size W W' → Calls Tryz.prog 24 #[.slice ao3 m3 q3, .slice (some ⟨W'.heap.size, 0, none⟩) 1 1] (W'.alloc (.cells #[.int .i64 (10 * (N : Int) + t + 1)] 3)) fun e w' => ∃ v', e = .returned (.tuple #[v', .bool b2]) ∧ IntsAt w' v' (joinL p.Minus [n]) ∧ Below W'.heap.size W' w') := fun W' k => by
        have a1 := k.alloc k.size (.cells #[.int .i64 (10 * (N : Int) + t + 1)] 3)
        have a2 := (Below.refl W'.heap.size W').alloc (Nat.le_refl _) (.cells #[.int .i64 (10 * (N : Int) + t + 1)] 3)
        have c := join_any (.slice ao3 m3 q3) (.slice (some ⟨W'.heap.size, 0, none⟩) 1 1) p.Minus [10 * (N : Int) + t + 1] _ (HP.out.hM.below a1 (Nat.le_refl _)) (IntsAt.new W' 3 [10 * (N : Int) + t + 1] (by simp)) hF.lM (by simp)
        rw [k3] at c
        refine c.mono ?_
        rintro e w' ⟨v', rfl, i, b⟩
        exact ⟨v', rfl, by rw [hn1]; exact i, a2.trans (b.mono a2.size)⟩
      have Hn1 := Lib.hid hn1
      clear hn1
      go_wp2_with (first
        | (go_at_call 24; have G1 := G0; clear G0; refine (C1.out W (Below.refl _ _)).mono ?_; rintro e w2 ⟨v1, rfl, i1, j1⟩; obtain ⟨z4', z5', z10', y4', y5', y10'⟩ := HC.out w2 j1; obtain ⟨ao4, m4, q4, rfl⟩ := i1.shape3)
        | (go_at_call 24; have G2 := G1; clear G1; refine (C2.out w2 j1).mono ?_; rintro e w3 ⟨v2, rfl, i2, b2⟩; have j2 := j1.trans (b2.mono j1.size); obtain ⟨z4'', z5'', z10'', y4'', y5'', y10''⟩ := HC.out w3 j2; obtain ⟨ao5, m5, q5, rfl⟩ := i2.shape3; have i12 := i1.below b2 (Nat.le_refl _)))
      go_ret2
      exact ⟨rfl, HT.out.below j2, HB.out.trans (j2.bel HBW.out)⟩
set_option maxRecDepth 100000 in
set_option maxHeartbeats 1000000 in
theorem tag_many3 (B T M : Nat) (bl : ByteArray → Nat) (L : List PR) (id : ByteArray) (w : World) (p : PR) (h : TabAt w B T M bl L) (hF : Fine p) (hg : get L id = some p) (hx : p.exited = false) (k1 : p.tags < 9) (k2 : joinOk p.Plus [tagN p] = true) (k3 : joinOk p.Minus [tagN p] = false) :
    Calls Tryz.prog 7 #[ptr T, .string id] w fun e w' => e = .returned (.tuple #[.int .i64 0, .int .i64 65]) ∧ TabAt w' B T M bl L ∧ Bel B w w' := by
  obtain ⟨hpL, hpid⟩ := get_mem hg
  have hi15 := hF.id1
  rw [hpid] at hi15
  have ho := of_any B T M bl L id w h (by unfold maxLen; omega)
  obtain ⟨e1, e2⟩ := of_live (bl := bl) hg hx
  rw [e1, e2] at ho
  obtain ⟨vS, vI, vP, vM, hp⟩ := h.procs p hpL
  obtain ⟨N, hN⟩ : ∃ N, N = numTo id id.size := ⟨_, rfl⟩
  have hNs := numTo_small hF
  have hic := hF.idc
  have hnl := numTo_lt p.id hF.idc
  rw [hpid] at hNs hic hnl
  rw [← hN] at hNs
  have ht1 := hF.t1
  have ht0 := hF.t0
  have etn : tagN p = 10 * (N : Int) + p.tags + 1 := by unfold tagN; rw [hpid, ← hN]
  obtain ⟨ao2, m2, q2, hv2⟩ := hp.hP.shape3
  obtain ⟨ao3, m3, q3, hv3⟩ := hp.hM.shape3
  subst hv2 hv3
  obtain ⟨W, hW⟩ : ∃ W, W = w.iter id id.size := ⟨_, rfl⟩
  have bW : Below w.heap.size w W := by rw [hW]; exact (Below.refl _ _).alloc (Nat.le_refl _) _
  have hTW := h.below bW
  obtain ⟨vS', vI', vP', vM', hpW⟩ := hTW.procs p hpL
  have hpW : ProcAt W (bl p.id) p vS vI (.slice ao2 m2 q2) (.slice ao3 m3 q3) := hp.keep (Keep3.of_below bW) (bW.block _ (h.ltP hpL))
  have hgW := hTW.ltP hpL
  have HC : Hid (∀ W', Below W.heap.size W W' → W'.cell? ⟨bl p.id, 4, none⟩ = some (.slice ao2 m2 q2) ∧ W'.cell? ⟨bl p.id, 5, none⟩ = some (.slice ao3 m3 q3) ∧ W'.cell? ⟨bl p.id, 10, none⟩ = some (.int .i64 p.tags) ∧ W'.frozen? ⟨bl p.id, 4, none⟩ = false ∧ W'.frozen? ⟨bl p.id, 5, none⟩ = false ∧ W'.frozen? ⟨bl p.id, 10, none⟩ = false) := fun W' k =>
    have f := fun i => k.cell (p := ⟨bl p.id, i, none⟩) hgW
    have f' := fun i => k.frozen (p := ⟨bl p.id, i, none⟩) hgW
    ⟨(f 4).trans (hpW.cell 4), (f 5).trans (hpW.cell 5), (f 10).trans (hpW.cell 10), (f' 4).trans (hpW.frozen 4), (f' 5).trans (hpW.frozen 5), (f' 10).trans (hpW.frozen 10)⟩
  have HP := Lib.hid hpW
  have HT := Lib.hid hTW
  have hBw : B ≤ w.heap.size := by have := h.lowT; have := h.ltT; omega
  have HB := Lib.hid (bW.bel hBw)
  have hn1 : -9223372036854775808 ≤ 10 * (N : Int) + p.tags + 1 := by omega
  unfold ptr at *
  generalize hb : bl p.id = g at *
  generalize ht : p.tags = t at *
  rw [etn] at k2 k3
  have HL := Lib.hid hpL
  have HE := Lib.hid etn
  have HgW := Lib.hid hgW
  have HBW : Hid (B ≤ W.heap.size) := Nat.le_trans hBw bW.size
  have d9 : decide (t ≥ 9) = false := by simp; omega
  clear hp hpW hTW h e1 e2 bW hgW
  go_enter Tryz.func7, Tryz.ntmps7
  go_wp2_with (go_at_call 23; refine ho.mono ?_; rintro e w1 ⟨rfl, rfl⟩)
  go_loopw [8, 10] (fun n _ wr => ∃ pos, pos ≤ id.size ∧ n = .int .i64 (numTo id pos) ∧ wr = w1.iter id pos) (fun _ _ wr => id.size - wr.iterPos w1.heap.size)
  case atStart => exact ⟨0, by omega, rfl, rfl⟩
  case round =>
    obtain ⟨pos, hpos, rfl, rfl⟩ := hrel
    by_cases hlt : pos < id.size
    · have hcc := hic pos hlt
      have hn := fun ty => run_next_ascii (P := Tryz.prog) w1 id pos ty hlt (by omega)
      have hnum := hnl pos
      have hp15 : (10 : Nat) ^ pos ≤ 10 ^ 14 := Nat.pow_le_pow_right (by omega) (by omega)
      have h14 : (10 : Nat) ^ 14 = 100000000000000 := by decide
      have hstep : numTo id (pos + 1) = if (id[pos]'hlt).toNat = 46 then numTo id pos else 10 * numTo id pos + ((id[pos]'hlt).toNat - 48) := by rw [numTo, dif_pos hlt]
      obtain ⟨c, hc⟩ : ∃ c : Nat, c = (id[pos]'hlt).toNat := ⟨_, rfl⟩
      rw [← hc] at hcc hstep
      simp only [← hc] at hn
      clear hc
      obtain ⟨x, hx⟩ : ∃ x, x = numTo id pos := ⟨_, rfl⟩
      rw [← hx] at hnum hstep ⊢
      have hxs : x < 100000000000000 := by omega
      clear hx hnum hp15 h14 hnl hic
      by_cases h46 : c = 46
      · subst h46
        rw [if_pos rfl] at hstep
        go_wp2
        go_roundw
        case rel => exact ⟨pos + 1, by omega, by rw [hstep], rfl⟩
        case measure => rw [World.iterPos_iter, World.iterPos_iter]; omega
      · rw [if_neg h46] at hstep
        have d1 : ((c : Int) != 46) = true := by simp; omega
        have hc1 : 49 ≤ c ∧ c ≤ 57 := by omega
        obtain ⟨hc1, hc2⟩ := hc1
        clear hcc
        go_wp2
        go_roundw
        case rel => exact ⟨pos + 1, by omega, by rw [hstep]; congr 1; omega, rfl⟩
        case measure => rw [World.iterPos_iter, World.iterPos_iter]; omega
    · have hn := fun ty => run_next_end (P := Tryz.prog) w1 id pos ty hlt
      obtain rfl : pos = id.size := by omega
      rw [← hN, ← hW] 
      rw [← hW] at hn
      clear hW hN etn
      obtain ⟨G0⟩ : Nonempty Nat := ⟨0⟩
      obtain ⟨z4, z5, z10, y4, y5, y10⟩ := HC.out W (Below.refl _ _)
      clear hic hnl
      clear hn1
      obtain ⟨n, hn1⟩ : ∃ n, n = 10 * (N : Int) + t + 1 := ⟨_, rfl⟩
      have C1 : Hid (∀ W', Below W.heap.size W W' → Calls Tryz.prog 24 #[.slice ao2 m2 q2, .slice (some ⟨W'.heap.size, 0, none⟩) 1 1] (W'.alloc (.cells #[.int .i64 (10 * (N : Int) + t + 1)] 3)) fun e w' => ∃ v', e = .returned (.tuple #[v', .bool true]) ∧ IntsAt w' v' (joinL p.Plus [n]) ∧ Below W.heap.size W w') := fun W' k => by
        have a1 := k.alloc k.size (.cells #[.int .i64 (10 * (N : Int) + t + 1)] 3)
        have c := join_any (.slice ao2 m2 q2) (.slice (some ⟨W'.heap.size, 0, none⟩) 1 1) p.Plus [10 * (N : Int) + t + 1] _ (HP.out.hP.below a1 (Nat.le_refl _)) (IntsAt.new W' 3 [10 * (N : Int) + t + 1] (by simp)) hF.lP (by simp)
        rw [k2] at c
        refine c.mono ?_
        rintro e w' ⟨v', rfl, i, b⟩
        exact ⟨v', rfl, by rw [hn1]; exact i, a1.trans (b.mono a1.size)⟩
      have C2 : Hid (∀ W', Below W.heap.size W W' → Calls Tryz.prog 24 #[.slice ao3 m3 q3, .slice (some ⟨W'.heap.size, 0, none⟩) 1 1] (W'.alloc (.cells #[.int .i64 (10 * (N : Int) + t + 1)] 3)) fun e w' => ∃ v', e = .returned (.tuple #[v', .bool false]) ∧ IntsAt w' v' (joinL p.Minus [n]) ∧ Below W'.heap.size W' w') := fun W' k => by
        have a1 := k.alloc k.size (.cells #[.int .i64 (10 * (N : Int) + t + 1)] 3)
        have a2 := (Below.refl W'.heap.size W').alloc (Nat.le_refl _) (.cells #[.int .i64 (10 * (N : Int) + t + 1)] 3)
        have c := join_any (.slice ao3 m3 q3) (.slice (some ⟨W'.heap.size, 0, none⟩) 1 1) p.Minus [10 * (N : Int) + t + 1] _ (HP.out.hM.below a1 (Nat.le_refl _)) (IntsAt.new W' 3 [10 * (N : Int) + t + 1] (by simp)) hF.lM (by simp)
        rw [k3] at c
        refine c.mono ?_
        rintro e w' ⟨v', rfl, i, b⟩
        exact ⟨v', rfl, by rw [hn1]; exact i, a2.trans (b.mono a2.size)⟩
      have Hn1 := Lib.hid hn1
      clear hn1
      go_wp2_with (first
        | (go_at_call 24; have G1 := G0; clear G0; refine (C1.out W (Below.refl _ _)).mono ?_; rintro e w2 ⟨v1, rfl, i1, j1⟩; obtain ⟨z4', z5', z10', y4', y5', y10'⟩ := HC.out w2 j1; obtain ⟨ao4, m4, q4, rfl⟩ := i1.shape3)
        | (go_at_call 24; have G2 := G1; clear G1; refine (C2.out w2 j1).mono ?_; rintro e w3 ⟨v2, rfl, i2, b2⟩; have j2 := j1.trans (b2.mono j1.size); obtain ⟨z4'', z5'', z10'', y4'', y5'', y10''⟩ := HC.out w3 j2; obtain ⟨ao5, m5, q5, rfl⟩ := i2.shape3; have i12 := i1.below b2 (Nat.le_refl _)))
      go_ret2
      exact ⟨rfl, HT.out.below j2, HB.out.trans (j2.bel HBW.out)⟩
theorem tag_many (B T M : Nat) (bl : ByteArray → Nat) (L : List PR) (id : ByteArray) (w : World) (p : PR) (h : TabAt w B T M bl L) (hF : Fine p) (hg : get L id = some p) (hx : p.exited = false) (hk : tagOk p = false) :
    Calls Tryz.prog 7 #[ptr T, .string id] w fun e w' => e = .returned (.tuple #[.int .i64 0, .int .i64 65]) ∧ TabAt w' B T M bl L ∧ Bel B w w' := by
  by_cases k1 : p.tags < 9
  · cases k2 : joinOk p.Plus [tagN p]
    · exact tag_many2 B T M bl L id w p h hF hg hx _ k1 k2 rfl
    · cases k3 : joinOk p.Minus [tagN p]
      · exact tag_many3 B T M bl L id w p h hF hg hx k1 k2 k3
      · unfold tagOk at hk; simp [k1, k2, k3] at hk
  · exact tag_many1 B T M bl L id w p h hF hg hx _ _ (by omega) rfl rfl
set_option maxRecDepth 100000 in
theorem tag_no (B T M : Nat) (bl : ByteArray → Nat) (L : List PR) (id : ByteArray) (w : World) (h : TabAt w B T M bl L) (hid : id.size ≤ maxLen) (hc : ofCode L id ≠ 0) :
    Calls Tryz.prog 7 #[ptr T, .string id] w fun e w' => e = .returned (.tuple #[.int .i64 0, .int .i64 (ofCode L id)]) ∧ w' = w := by
  have ho := of_any B T M bl L id w h hid
  rcases of_cases bl L id with ⟨p, hg, hx, e1, e2⟩ | ⟨e1, e2, e3⟩
  · exact absurd e2 hc
  · rw [e1] at ho
    generalize ofCode L id = c at *
    unfold ptr at *
    go_enter Tryz.func7, Tryz.ntmps7
    go_wp2_with (go_at_call 23; refine ho.mono ?_; rintro e w1 ⟨rfl, rfl⟩)
    go_ret2
    exact ⟨rfl, rfl⟩
end Go.Proofs.YtmphnoabkmoafaaGreatDoor
