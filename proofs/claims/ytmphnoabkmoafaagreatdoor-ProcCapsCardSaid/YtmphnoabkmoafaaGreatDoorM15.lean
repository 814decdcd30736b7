/- Fork. -/
import Derived.Test.YtmphnoabkmoafaaGreatDoorM14
namespace Go.Proofs.YtmphnoabkmoafaaGreatDoor
open Go.RowKit Go.Maps
set_option linter.unusedVariables false
variable {uu0 : Unit} [Base uu0]
/-- What every process keeps to. -/
structure Fine (p : PR) : Prop where
  lS : p.S.length ≤ 17592186043904
  lI : p.I.length ≤ 17592186043904
  lP : p.Plus.length ≤ 17592186043904
  lM : p.Minus.length ≤ 17592186043904
  f0 : 0 ≤ p.forks
  f1 : p.forks ≤ 9
  t0 : 0 ≤ p.tags
  t1 : p.tags ≤ 9
  s0 : 0 ≤ p.share
  s1 : p.share ≤ 1000000
  id1 : p.id.size ≤ 15
  idc : ∀ (i : Nat) (h : i < p.id.size), (p.id[i]'h).toNat = 46 ∨ 49 ≤ (p.id[i]'h).toNat ∧ (p.id[i]'h).toNat ≤ 57
def digs (n : Int) : ByteArray := ⟨(Lib.decDigits n.toNat).toArray⟩
def childId (id : ByteArray) (n : Int) : ByteArray := id ++ ⟨#[46]⟩ ++ digs n
def child (p : PR) (share : Int) : PR := ⟨childId p.id (p.forks + 1), p.id, p.S, p.I, p.Plus, p.Minus, share, 0, false, 0, 0, p.mask, 0⟩
def parentP (p : PR) (share : Int) : PR := { p with forks := p.forks + 1, share := p.share - (share + 1) }
theorem digs_size (n : Int) (h0 : 0 ≤ n) (h1 : n < 10) : (digs n).size = 1 := by
  unfold digs
  rw [Lib.decDigits_one (by omega)]
  rfl
theorem itoa_digs (n : Int) (w : World) (h0 : 0 ≤ n) (h1 : n < 100) : Calls Tryz.prog 62 #[.int .i64 n] w fun e w' => e = .returned (.string (digs n)) ∧ w' = w := by
  have h := Tryz.strconv_Itoa_small n.toNat (by omega) w
  rw [show ((n.toNat : Nat) : Int) = n by omega] at h
  exact h
def forkErr (L : List PR) (id : ByteArray) (share : Int) : Int := match get L id with
  | none => 61
  | some p => if p.exited then 50 else if share < 0 then 1 else if p.share ≤ share ∨ 9 ≤ p.forks ∨ 15 ≤ id.size then 65 else 0
set_option maxRecDepth 100000 in
set_option maxHeartbeats 1000000 in
theorem fork_ok (B T M : Nat) (bl : ByteArray → Nat) (L : List PR) (id : ByteArray) (share : Int) (w : World) (p : PR) (h : TabAt w B T M bl L) (hF : Fine p) (hg : get L id = some p) (hx : p.exited = false) (h0 : 0 ≤ share) (h1 : share < p.share) (h2 : p.forks < 9) (h3 : id.size < 15) (hlen : L.length < 1000000) :
    Calls Tryz.prog 27 #[ptr T, .string id, .int .i64 share] w fun e w' => ∃ bl', e = .returned (.tuple #[.string (childId id (p.forks + 1)), .int .i64 0]) ∧ TabAt w' B T M bl' (putP (child p share) (delP (childId id (p.forks + 1)) (updP (parentP p share) L))) ∧ Bel B w w' := by
  obtain ⟨hpL, hpid⟩ := get_mem hg
  have ho := of_any B T M bl L id w h (by unfold maxLen; omega)
  obtain ⟨e1, e2⟩ := of_live (bl := bl) hg hx
  rw [e1, e2] at ho
  obtain ⟨vS, vI, vP, vM, hp⟩ := h.procs p hpL
  have hf0 := hF.f0
  have hs1 := hF.s1
  have c6 : w.cell? ⟨bl p.id, 6, none⟩ = some (.int .i64 p.share) := hp.cell 6
  have c9 : w.cell? ⟨bl p.id, 9, none⟩ = some (.int .i64 p.forks) := hp.cell 9
  have f6 : w.frozen? ⟨bl p.id, 6, none⟩ = false := hp.frozen 6
  have f9 : w.frozen? ⟨bl p.id, 9, none⟩ = false := hp.frozen 9
  obtain ⟨W, hW⟩ : ∃ W, W = (w.setCell ⟨bl p.id, 9, none⟩ (.int .i64 (p.forks + 1))).setCell ⟨bl p.id, 6, none⟩ (.int .i64 (p.share - (share + 1))) := ⟨_, rfl⟩
  have hAt : At66 w W (bl p.id) ((parentP p share).cells vS vI vP vM) := by rw [hW]; exact ((At66.start hp.row).set 9 _).set 6 _
  obtain ⟨hT1, hB1⟩ := h.at66 (p' := parentP p share) hpL rfl hAt hp.hS hp.hI hp.hP hp.hM
  have d1 : decide (share < 0) = false := by simp; omega
  have d2 : decide (p.share ≤ share) = false := by simp; omega
  have d3 : decide (p.forks ≥ 9) = false := by simp; omega
  have d4 : decide (8 ≤ ((id.size : Int) + 1) / 2) = false := by simp; omega
  obtain ⟨ao0, m0, q0, hv0⟩ := hp.hS.shape3
  obtain ⟨ao1, m1, q1, hv1⟩ := hp.hI.shape3
  obtain ⟨ao2, m2, q2, hv2⟩ := hp.hP.shape3
  obtain ⟨ao3, m3, q3, hv3⟩ := hp.hM.shape3
  subst hv0 hv1 hv2 hv3
  have hI : Hid (∀ W', Below W.heap.size W W' → IntsAt W' (.slice ao0 m0 q0) p.S ∧ IntsAt W' (.slice ao1 m1 q1) p.I ∧ IntsAt W' (.slice ao2 m2 q2) p.Plus ∧ IntsAt W' (.slice ao3 m3 q3) p.Minus) := fun W' k =>
    have k3 := (hAt.keep3 (Nat.le_trans h.lowB (h.lowP p hpL))).trans (Keep3.of_below k)
    ⟨hp.hS.keep k3, hp.hI.keep k3, hp.hP.keep k3, hp.hM.keep k3⟩
  have y1 : ¬ (9223372036854775807 < id.size + 1) := by omega
  have y2 : ¬ (9223372036854775807 < id.size + 1 + (digs (p.forks + 1)).size) := by rw [digs_size _ (by omega) (by omega)]; omega
  have hTab := Lib.hid hT1
  have hgW : bl p.id < W.heap.size := by rw [hAt.size]; exact h.ltP hpL
  have HS : Hid (∀ w', Below W.heap.size W w' → Below W.heap.size W w' ∧ w'.cell? ⟨bl p.id, 2, none⟩ = some (.slice ao0 m0 q0) ∧ w'.cell? ⟨bl p.id, 3, none⟩ = some (.slice ao1 m1 q1) ∧ w'.cell? ⟨bl p.id, 4, none⟩ = some (.slice ao2 m2 q2) ∧ w'.cell? ⟨bl p.id, 5, none⟩ = some (.slice ao3 m3 q3) ∧ w'.cell? ⟨bl p.id, 9, none⟩ = some (.int .i64 (p.forks + 1)) ∧ w'.cell? ⟨bl p.id, 11, none⟩ = some (.int .i64 p.mask)) := fun w' k =>
    have f := fun i => k.cell (p := ⟨bl p.id, i, none⟩) hgW
    ⟨k, (f 2).trans (hAt.cell 2), (f 3).trans (hAt.cell 3), (f 4).trans (hAt.cell 4), (f 5).trans (hAt.cell 5), (f 9).trans (hAt.cell 9), (f 11).trans (hAt.cell 11)⟩
  have HD : Hid (Below W.heap.size W W.drew) := ⟨rfl, rfl, rfl, Nat.le_refl _, fun _ _ => rfl⟩
  have hWB := Lib.hid hB1
  have HA := Lib.hid hAt
  unfold ptr at *
  generalize hb : bl p.id = g at *
  generalize hn : p.forks = n at *
  generalize hs : p.share = s at *
  generalize hm : p.mask = m at *
  clear hp hAt hT1 hB1 h
  go_enter Tryz.func27, Tryz.ntmps27
  go_upto_region 10 with (go_at_call 23; refine ho.mono ?_; rintro e w1 ⟨rfl, rfl⟩)
  rw [← hW]
  clear hW
  obtain ⟨G0⟩ : Nonempty Nat := ⟨0⟩
  go_region_held3 (fun w' => Below W.heap.size W w' ∧ w'.cell? ⟨g, 2, none⟩ = some (.slice ao0 m0 q0) ∧ w'.cell? ⟨g, 3, none⟩ = some (.slice ao1 m1 q1) ∧ w'.cell? ⟨g, 4, none⟩ = some (.slice ao2 m2 q2) ∧ w'.cell? ⟨g, 5, none⟩ = some (.slice ao3 m3 q3) ∧ w'.cell? ⟨g, 9, none⟩ = some (.int .i64 (n + 1)) ∧ w'.cell? ⟨g, 11, none⟩ = some (.int .i64 m)) (first | exact HS.out _ HD.out | exact HS.out _ S1.out | exact HS.out _ S2.out | exact HS.out _ (S2.out.alloc S2.out.size _) | go_keep) ((first
    | (go_at_call 62; refine (itoa_digs _ _ (by omega) (by omega)).mono ?_; rintro e w2 ⟨rfl, rfl⟩)
    | (go_at_call 25; have G1 := G0; clear G0; refine (twin_any _ _ p.S p.I _ (hI.out _ HD.out).1 (hI.out _ HD.out).2.1 hF.lS hF.lI).mono ?_; rintro e w3 ⟨x1, y1, rfl, i1, i2, b1⟩; have S1 : Hid (Below W.heap.size W w3) := HD.out.trans (b1.mono HD.out.size); obtain ⟨ao4, m4, q4, rfl⟩ := i1.shape3; obtain ⟨ao5, m5, q5, rfl⟩ := i2.shape3)
    | (go_at_call 26; have G2 := G1; clear G1; refine (caps_any _ _ p.Plus p.Minus _ (hI.out _ S1.out).2.2.1 (hI.out _ S1.out).2.2.2 hF.lP hF.lM).mono ?_; rintro e w4 ⟨x2, y2, rfl, i3, i4, b2⟩; have S2 : Hid (Below W.heap.size W w4) := S1.out.trans (b2.mono S1.out.size); obtain ⟨ao6, m6, q6, rfl⟩ := i3.shape3; obtain ⟨ao7, m7, q7, rfl⟩ := i4.shape3)))
  all_goals
    obtain ⟨O, hO⟩ : ∃ O, O = Obj.cells #[Value.string (id ++ { data := #[46] } ++ digs (n + 1)), Value.string id, Value.slice ao4 m4 q4, Value.slice ao5 m5 q5, Value.slice ao6 m6 q6, Value.slice ao7 m7 q7, Value.int IntKind.i64 share, Value.int IntKind.i64 0, Value.bool false, Value.int IntKind.i64 0, Value.int IntKind.i64 0, Value.int IntKind.i64 m, Value.int IntKind.i64 0] 68 := ⟨_, rfl⟩
    rw [← hO]
    obtain ⟨W5, hW5⟩ : ∃ W5, W5 = w4.alloc O := ⟨_, rfl⟩
    rw [← hW5]
    have kA : Below w4.heap.size w4 W5.drew := by rw [hW5]; exact ((Below.refl _ _).alloc (Nat.le_refl _) _).drew
    have hrow : W5.drew.heap[w4.heap.size]? = some (.cells ((child p share).cells (Value.slice ao4 m4 q4) (Value.slice ao5 m5 q5) (Value.slice ao6 m6 q6) (Value.slice ao7 m7 q7)) 68 (0, 0)) := by
      have e : O = Obj.cells ((child p share).cells (Value.slice ao4 m4 q4) (Value.slice ao5 m5 q5) (Value.slice ao6 m6 q6) (Value.slice ao7 m7 q7)) 68 := by
        rw [hO]; unfold child PR.cells childId; simp only [hpid, hn, hm]
      rw [hW5, e]
      exact heap_alloc_new w4 (.cells _ 68)
    have hPA : ProcAt W5.drew w4.heap.size (child p share) (Value.slice ao4 m4 q4) (Value.slice ao5 m5 q5) (Value.slice ao6 m6 q6) (Value.slice ao7 m7 q7) :=
      ⟨hrow, (i1.below b2 (Nat.le_refl _)).below kA (Nat.le_refl _), (i2.below b2 (Nat.le_refl _)).below kA (Nat.le_refl _), i3.below kA (Nat.le_refl _), i4.below kA (Nat.le_refl _)⟩
    have hT3 := hTab.out.below S2.out
    have hT5 := hT3.below kA
    have hsz := S2.out.size
    have hszW := hWB.out.size
    have hBW : B ≤ W.heap.size := by have := hTab.out.lowT; have := hTab.out.ltT; omega
    obtain ⟨W6, hrun, hT6, hB6, hs6⟩ := hT5.put (child p share) w4.heap.size ⟨_, _, _, _, hPA⟩ (by omega) (fun q hq => by have := hTab.out.ltP hq; omega) (by simp [updP]; unfold maxLen; omega) (by show (childId p.id (p.forks + 1)).size ≤ maxLen; unfold childId maxLen; rw [hpid, ByteArray.size_append, ByteArray.size_append, hn, digs_size _ (by omega) (by omega), show (ByteArray.mk #[46]).size = 1 from rfl]; omega)
    have eid : (child p share).id = id ++ { data := #[46] } ++ digs (n + 1) := by unfold child childId; simp only [hpid, hn]
    rw [eid] at hrun hT6
    unfold ptr at hrun
    have c0 := hT5.cellT
    have cc : W5.drew.cell? ⟨w4.heap.size, 0, none⟩ = some (.string (id ++ { data := #[46] } ++ digs (n + 1))) := by rw [cell_of_row _ _ 0 _ 68 (0, 0) hrow, ← eid]; rfl
    obtain ⟨a6, b6, cc6, d6, hP6⟩ := hT6.procs (child p share) ((mem_putP _).2 (.inl rfl))
    have c6' := hP6.cell 0
    rw [eid, if_pos rfl] at c6'
    have c7 : W6.cell? ⟨w4.heap.size, 0, none⟩ = some (.string (id ++ { data := #[46] } ++ digs (n + 1))) := by rw [c6', ← eid]; rfl
    have hfin : Bel B w1 W6 := (hWB.out.trans (((S2.out.trans (kA.mono hsz)).bel hBW).trans hB6))
    clear hrow hPA hT3 hT5 hP6 c6'
    have c0' : W5.cell? ⟨T, 0, none⟩ = some (.map (some M)) := c0
    have cc' : W5.cell? ⟨w4.heap.size, 0, none⟩ = some (.string (id ++ { data := #[46] } ++ digs (n + 1))) := cc
    clear hO hW5
  all_goals
    go_wp2
    go_region
  all_goals
    go_wp2
  all_goals
    go_ret2
    exact ⟨_, rfl, hT6, hfin⟩
set_option maxRecDepth 100000 in
set_option maxHeartbeats 1000000 in
theorem fork_no (B T M : Nat) (bl : ByteArray → Nat) (L : List PR) (id : ByteArray) (share : Int) (w : World) (h : TabAt w B T M bl L) (hF : ∀ p ∈ L, Fine p) (hid : id.size ≤ maxLen) (hc : forkErr L id share ≠ 0) :
    Calls Tryz.prog 27 #[ptr T, .string id, .int .i64 share] w fun e w' => e = .returned (.tuple #[.string ⟨#[]⟩, .int .i64 (forkErr L id share)]) ∧ w' = w := by
  have ho := of_any B T M bl L id w h hid
  rcases of_cases bl L id with ⟨p, hg, hx, e1, e2⟩ | ⟨e1, e2, e3⟩
  · obtain ⟨hpL, hpid⟩ := get_mem hg
    rw [e1, e2] at ho
    have hf0 := (hF p hpL).f0
    have hi15 := (hF p hpL).id1
    rw [hpid] at hi15
    obtain ⟨vS, vI, vP, vM, hp⟩ := h.procs p hpL
    have c6 : w.cell? ⟨bl p.id, 6, none⟩ = some (.int .i64 p.share) := hp.cell 6
    have c9 : w.cell? ⟨bl p.id, 9, none⟩ = some (.int .i64 p.forks) := hp.cell 9
    have hfe : forkErr L id share = if share < 0 then 1 else if p.share ≤ share ∨ 9 ≤ p.forks ∨ 15 ≤ id.size then 65 else 0 := by unfold forkErr; rw [hg]; simp [hx]
    rw [hfe] at hc ⊢
    clear hfe hp e1 e2
    unfold ptr at *
    generalize bl p.id = g at *
    generalize p.forks = n at *
    generalize p.share = s at *
    unfold maxLen at hid
    by_cases k0 : share < 0
    · rw [if_pos k0]
      have d1 : decide (share < 0) = true := by simpa using k0
      go_enter Tryz.func27, Tryz.ntmps27
      go_wp2_with (go_at_call 23; refine ho.mono ?_; rintro e w1 ⟨rfl, rfl⟩)
      go_ret2
      exact ⟨rfl, rfl⟩
    · rw [if_neg k0] at hc ⊢
      have d1 : decide (share < 0) = false := by simpa using k0
      by_cases k1 : s ≤ share
      · rw [if_pos (.inl k1)]
        have d2 : decide (s ≤ share) = true := by simpa using k1
        go_enter Tryz.func27, Tryz.ntmps27
        go_wp2_with (go_at_call 23; refine ho.mono ?_; rintro e w1 ⟨rfl, rfl⟩)
        go_ret2
        exact ⟨rfl, rfl⟩
      · have d2 : decide (s ≤ share) = false := by simpa using k1
        by_cases k2 : 9 ≤ n
        · rw [if_pos (.inr (.inl k2))]
          have d3 : decide (n ≥ 9) = true := by simpa using k2
          go_enter Tryz.func27, Tryz.ntmps27
          go_wp2_with (go_at_call 23; refine ho.mono ?_; rintro e w1 ⟨rfl, rfl⟩)
          go_ret2
          exact ⟨rfl, rfl⟩
        · have d3 : decide (n ≥ 9) = false := by simpa using k2
          by_cases k3 : 15 ≤ id.size
          · rw [if_pos (.inr (.inr k3))]
            have hi0 : id.size = 15 := by omega
            have hi1 : (id.size : Int) = 15 := by omega
            clear hid hi15 k3 hc
            go_enter Tryz.func27, Tryz.ntmps27
            go_wp2_with (go_at_call 23; refine ho.mono ?_; rintro e w1 ⟨rfl, rfl⟩)
            go_ret2
            exact ⟨rfl, rfl⟩
          · rw [if_neg (by rintro (h | h | h) <;> contradiction)] at hc
            exact absurd rfl hc
  · rw [e1] at ho
    have hfe : forkErr L id share = ofCode L id := by
      unfold forkErr ofCode
      unfold ofCode at e2
      cases hg : get L id with
      | none => rfl
      | some p => rw [hg] at e2; simp only at e2 ⊢; split <;> simp_all
    rw [hfe]
    generalize ofCode L id = c at *
    unfold ptr at *
    go_enter Tryz.func27, Tryz.ntmps27
    go_wp2_with (go_at_call 23; refine ho.mono ?_; rintro e w1 ⟨rfl, rfl⟩)
    go_ret2
    exact ⟨rfl, rfl⟩
end Go.Proofs.YtmphnoabkmoafaaGreatDoor
