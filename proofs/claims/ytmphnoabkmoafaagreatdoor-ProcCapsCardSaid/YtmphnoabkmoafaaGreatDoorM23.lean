/- Wait. -/
import Derived.BigQuiet
import Derived.Test.YtmphnoabkmoafaaGreatDoorM22
namespace Go.Proofs.YtmphnoabkmoafaaGreatDoor
open Go.RowKit Go.Maps
set_option linter.unusedVariables false
variable {uu0 : Unit} [Base uu0]
def takes (id : ByteArray) (p c : PR) : Bool := childOf id c && c.exited && flowL c.S c.I p.S p.I
def waitFind (L : List PR) (id : ByteArray) (p : PR) : Option PR := L.find? (takes id p)
def waitP (p c : PR) : PR := { p with share := p.share + (c.share + 1) }
def waitCode (L : List PR) (id : ByteArray) (p : PR) : Int := match waitFind L id p with | some _ => 0 | none => if L.any (childOf id) then 63 else 61
theorem any_take_succ {f : PR → Bool} {L : List PR} {i : Nat} (hi : i < L.length) : (L.take (i + 1)).any f = ((L.take i).any f || f L[i]) := by
  rw [List.take_succ_eq_append_getElem hi, List.any_append]
  simp
/-- .. each in its cell. -/
theorem sorted_cells (B T M : Nat) (bl : ByteArray → Nat) (L : List PR) (w : World) (h : TabAt w B T M bl L) (hl : L.length ≤ 1000000) (h0 : 0 < L.length) (n : Nat) (hn : n = L.length) :
    Calls Tryz.prog 52 #[ptr T] w fun e w' => ∃ gs cap, e = .returned (.slice (some ⟨gs, 0, none⟩) n cap) ∧ n ≤ cap ∧ gs < w'.heap.size ∧ (∀ j (hj : j < L.length), w'.cell? ⟨gs, j, none⟩ = some (.string (L[j]'hj).id)) ∧ Below w.heap.size w w' := by
  subst hn
  refine (sorted_any B T M bl L w h hl).mono ?_
  rintro e w' ⟨v, rfl, hown, hb⟩
  rcases hown.2 with ⟨_, hz⟩ | ⟨g, cap, cur, rfl, _, hg, hnc, hcm, _, htake⟩
  · omega
  · refine ⟨g, cap, rfl, hnc, (Array.getElem?_eq_some_iff.1 hg).1, fun j hj => ?_, hb⟩
    have hu : (L.map fun p => Value.string p.id)[j]? = some (.string (L[j]'hj).id) := by simp [hj]
    have := hown.cells (g := g) rfl j _ hu
    rw [Addr.add_mid, Nat.zero_add] at this
    exact this
/-- What Wait comes to. -/
def WaitPost (w : World) (B T M : Nat) (bl : ByteArray → Nat) (L : List PR) (id : ByteArray) (p : PR) (e : Ending) (w' : World) : Prop :=
  ((∃ c, waitFind L id p = some c ∧ e = .returned (.tuple #[.string c.id, .int .i64 c.status, .int .i64 0]) ∧ TabAt w' B T M bl (delP c.id (updP (waitP p c) L))) ∨
    (waitFind L id p = none ∧ e = .returned (.tuple #[.string ⟨#[]⟩, .int .i64 0, .int .i64 (if L.any (childOf id) then 63 else 61)]) ∧ TabAt w' B T M bl L)) ∧ Bel B w w'
set_option maxRecDepth 100000 in
set_option maxHeartbeats 2000000 in
theorem wait_live (B T M : Nat) (bl : ByteArray → Nat) (L : List PR) (id : ByteArray) (w : World) (p : PR) (h : TabAt w B T M bl L) (hF : ∀ q ∈ L, Fine q) (hg : get L id = some p) (hx : p.exited = false) (hlen : L.length ≤ 1000000) :
    Calls Tryz.prog 29 #[ptr T, .string id] w fun e w' => WaitPost w B T M bl L id p e w' := by
  obtain ⟨hpL, hpid⟩ := get_mem hg
  have hi15 := (hF p hpL).id1
  rw [hpid] at hi15
  have ho := of_any B T M bl L id w h (by unfold maxLen; omega)
  obtain ⟨e1, e2⟩ := of_live (bl := bl) hg hx
  rw [e1, e2] at ho
  have hu := h.uniq
  have hBw : B ≤ w.heap.size := by have := h.lowT; have := h.ltT; omega
  have hn0 : 0 < L.length := List.length_pos_of_mem hpL
  have HT := Lib.hid h
  obtain ⟨n, hn⟩ : ∃ n, n = L.length := ⟨_, rfl⟩
  have hs := sorted_cells B T M bl L w h hlen hn0 n hn
  have hlens := hF p hpL
  unfold ptr at *
  rw [← hn] at hn0 hlen
  have HN := Lib.hid hn
  obtain ⟨g, hgb⟩ : ∃ g, g = bl p.id := ⟨_, rfl⟩
  rw [← hgb] at ho e1
  have HG := Lib.hid hgb
  have HF := Lib.hid hF
  have HU := Lib.hid hu
  have HL := Lib.hid hpL
  have HX := Lib.hid hx
  have HI := Lib.hid hpid
  clear h e1 e2 hgb hn hF hu hg hpL hx
  go_enter Tryz.func29, Tryz.ntmps29
  go_wp2_with (first
    | (go_at_call 23; refine ho.mono ?_; rintro e w0 ⟨rfl, rfl⟩)
    | (go_at_call 52; refine hs.mono ?_; rintro e w1 ⟨gs, cap, rfl, hcap, hgs, hcells, hb1⟩))
  have hT1 := HT.out.below hb1
  have HT1 := Lib.hid hT1
  have HC := Lib.hid hcells
  have HB1 := Lib.hid (hb1.bel hBw)
  have HBW : Hid (B ≤ w1.heap.size) := Nat.le_trans hBw hb1.size
  clear hT1 hcells hb1
  go_loopw [9, 11, 12, 25] (fun sm _ _ ix wr => ∃ i : Nat, i ≤ n ∧ ix = .int .i64 i ∧ sm = .bool ((L.take i).any (childOf id)) ∧ (∀ q ∈ L.take i, takes id p q = false) ∧ Below w1.heap.size w1 wr) (fun _ _ _ ix _ => n - (intOf ix).toNat)
  case atStart => exact ⟨0, by omega, rfl, by simp, by simp, Below.refl _ _⟩
  case round =>
    obtain ⟨i, hin, rfl, rfl, hno, hbr⟩ := hrel
    by_cases hi : i < n
    · have hiL : i < L.length := by rw [← HN.out]; exact hi
      obtain ⟨c, hc⟩ : ∃ c, c = L[i]'hiL := ⟨_, rfl⟩
      have hcL : c ∈ L := by rw [hc]; exact List.getElem_mem _
      have hTr := HT1.out.below hbr
      have k0 : wr.cell? ⟨gs, i, none⟩ = some (.string c.id) := by rw [hbr.cell (p := ⟨gs, i, none⟩) hgs, HC.out i hiL, hc]
      have hany : (L.take (i + 1)).any (childOf id) = ((L.take i).any (childOf id) || childOf id c) := by rw [any_take_succ hiL, hc]
      have hnos : takes id p c = false → ∀ q ∈ L.take (i + 1), takes id p q = false := fun h q hq => by
        rw [List.take_succ_eq_append_getElem hiL] at hq
        rcases List.mem_append.1 hq with hq | hq
        · exact hno q hq
        · rw [List.mem_singleton.1 hq, ← hc]; exact h
      have hrun := hTr.lookup c.id (by have := (HF.out c hcL).id1; unfold maxLen; omega)
      have eg : ptrOf bl L c.id = .pointer (some ⟨bl c.id, 0, none⟩) := by unfold ptrOf; rw [get_of_mem HU.out hcL]; rfl
      rw [eg] at hrun
      have cT := hTr.cellT
      obtain ⟨vS, vI, vP, vM, hpc⟩ := hTr.procs c hcL
      obtain ⟨ao0, m0, q0, hv0⟩ := hpc.hS.shape3
      obtain ⟨ao1, m1, q1, hv1⟩ := hpc.hI.shape3
      subst hv0 hv1
      have c1 : wr.cell? ⟨bl c.id, 1, none⟩ = some (.string c.par) := hpc.cell 1
      have c8 : wr.cell? ⟨bl c.id, 8, none⟩ = some (.bool c.exited) := hpc.cell 8
      have HPC := Lib.hid hpc
      have HTR := Lib.hid hTr
      have HR := Lib.hid hrun
      have EG := Lib.hid eg
      obtain ⟨gc, hgc⟩ : ∃ gc, gc = bl c.id := ⟨_, rfl⟩
      have HGC := Lib.hid hgc
      rw [← hgc] at hrun c1 c8
      have HCI := Lib.hid hc
      clear hpc hTr eg hgc hc
      by_cases hpar : c.par = id
      · have d1 : (c.par.toList == id.toList) = true := by rw [str_eq]; simpa using hpar
        have hch : childOf id c = true := by simpa [childOf] using hpar
        have hmax : c.id.size ≤ maxLen := by have := (HF.out c hcL).id1; unfold maxLen; omega
        cases hex : c.exited
        · rw [hex] at c8
          have hnos := hnos (by unfold takes; rw [hch, hex]; rfl)
          rw [hch, Bool.or_true] at hany
          have l8 : ∀ j : Lat wr, j.w.cell? ⟨gc, 8, none⟩ = some (.bool false) := fun j => (j.h.cell (p := ⟨gc, 8, none⟩) (by rw [HGC.out]; exact HTR.out.ltP hcL)).trans c8
          go_wp2
          refine wp_region_lat (W := wr) (by kernel_rfl) (by kernel_rfl) (Below.refl _ _) ?_
          iterate 18 (go_big_quiet_step (fail))
          refine wpQuiet_nil ?_
          rintro _ ⟨j, rfl⟩
          go_wp2
          go_roundw
          case rel => exact ⟨i + 1, by omega, rfl, by rw [hany], hnos, hbr.trans (j.h.mono hbr.size)⟩
          case measure => simp [intOf]; omega
        · rw [hex] at c8
          obtain ⟨uS, uI, uP, uM, hpp⟩ := HTR.out.procs p HL.out
          obtain ⟨ao2, m2, q2, hv2⟩ := hpp.hS.shape3
          obtain ⟨ao3, m3, q3, hv3⟩ := hpp.hI.shape3
          subst hv2 hv3
          have hltc : gc < wr.heap.size := by rw [HGC.out]; exact HTR.out.ltP hcL
          have hltp : g < wr.heap.size := by rw [HG.out]; exact HTR.out.ltP HL.out
          have HLc := Lib.hid hltc
          have HLp := Lib.hid hltp
          have X1 : Hid (∀ W', Below wr.heap.size wr W' → Calls Tryz.prog 63 #[.agg #[.slice ao0 m0 q0, .slice ao1 m1 q1], .agg #[.slice ao2 m2 q2, .slice ao3 m3 q3]] W' fun e w' => e = .returned (.bool (flowL c.S c.I p.S p.I)) ∧ Below W'.heap.size W' w') := fun W' k =>
            have fc := HF.out c hcL
            have fp := HF.out p HL.out
            flows_any _ _ _ _ c.S c.I p.S p.I W' (HPC.out.hS.below k (Nat.le_refl _)) (HPC.out.hI.below k (Nat.le_refl _)) (hpp.hS.below k (Nat.le_refl _)) (hpp.hI.below k (Nat.le_refl _)) fc.lS fc.lI fp.lS fp.lI
          have l8 : ∀ j : Lat wr, j.w.cell? ⟨gc, 8, none⟩ = some (.bool true) := fun j => (j.h.cell (p := ⟨gc, 8, none⟩) HLc.out).trans c8
          have l2 : ∀ j : Lat wr, j.w.cell? ⟨gc, 2, none⟩ = some (.slice ao0 m0 q0) := fun j => (j.h.cell (p := ⟨gc, 2, none⟩) HLc.out).trans (by rw [HGC.out]; exact HPC.out.cell 2)
          have l3 : ∀ j : Lat wr, j.w.cell? ⟨gc, 3, none⟩ = some (.slice ao1 m1 q1) := fun j => (j.h.cell (p := ⟨gc, 3, none⟩) HLc.out).trans (by rw [HGC.out]; exact HPC.out.cell 3)
          have r2 : ∀ j : Lat wr, j.w.cell? ⟨g, 2, none⟩ = some (.slice ao2 m2 q2) := fun j => (j.h.cell (p := ⟨g, 2, none⟩) HLp.out).trans (by rw [HG.out]; exact hpp.cell 2)
          have r3 : ∀ j : Lat wr, j.w.cell? ⟨g, 3, none⟩ = some (.slice ao3 m3 q3) := fun j => (j.h.cell (p := ⟨g, 3, none⟩) HLp.out).trans (by rw [HG.out]; exact hpp.cell 3)
          have HPP := Lib.hid hpp
          have htk : takes id p c = flowL c.S c.I p.S p.I := by unfold takes; rw [hch, hex]; rfl
          have HTK := Lib.hid htk
          obtain ⟨fl, hfl⟩ : ∃ fl, fl = flowL c.S c.I p.S p.I := ⟨_, rfl⟩
          rw [← hfl] at X1 htk HTK
          clear hpp hltc hltp hfl
          cases fl
          · have hnos := hnos htk
            rw [hch, Bool.or_true] at hany
            go_wp2
            refine wp_region_lat (W := wr) (by kernel_rfl) (by kernel_rfl) (Below.refl _ _) ?_
            iterate 18 (go_big_quiet_step (with_reducible exact Lat.call (X1.out _ (Lat.h _))))
            refine wpQuiet_nil ?_
            rintro _ ⟨j, rfl⟩
            go_wp2
            go_roundw
            case rel => exact ⟨i + 1, by omega, rfl, by rw [hany], hnos, hbr.trans (j.h.mono hbr.size)⟩
            case measure => simp [intOf]; omega
          · go_wp2
            refine wp_region_lat (W := wr) (by kernel_rfl) (by kernel_rfl) (Below.refl _ _) ?_
            iterate 18 (go_big_quiet_step (with_reducible exact Lat.call (X1.out _ (Lat.h _))))
            refine wpQuiet_nil ?_
            rintro _ ⟨j, rfl⟩
            have kd : Below wr.heap.size wr j.w := j.h
            have hTd := HTR.out.below kd
            have hpd := HPP.out.keep (Keep3.of_below kd) (kd.block _ (by rw [← HG.out]; exact HLp.out))
            have hcd := HPC.out.keep (Keep3.of_below kd) (kd.block _ (by rw [← HGC.out]; exact HLc.out))
            have hgg : gc ≠ g := fun e => by
              have e2 : bl c.id = bl p.id := by rw [← HGC.out, ← HG.out]; exact e
              have e3 := HU.out c hcL p HL.out (hTd.inj c hcL p HL.out e2)
              rw [e3, HX.out] at hex
              cases hex
            have hgM : gc ≠ M := by have := hTd.neM hcL; rw [HGC.out]; exact this.symm
            have s6 : j.w.cell? ⟨g, 6, none⟩ = some (.int .i64 p.share) := by rw [HG.out]; exact hpd.cell 6
            have s6' : j.w.drew.cell? ⟨g, 6, none⟩ = some (.int .i64 p.share) := s6
            have t6 : j.w.cell? ⟨gc, 6, none⟩ = some (.int .i64 c.share) := by rw [HGC.out]; exact hcd.cell 6
            have t6' : j.w.drew.cell? ⟨gc, 6, none⟩ = some (.int .i64 c.share) := t6
            have f6 : j.w.frozen? ⟨g, 6, none⟩ = false := by rw [HG.out]; exact hpd.frozen 6
            have f6' : j.w.drew.frozen? ⟨g, 6, none⟩ = false := f6
            have hps0 := (HF.out p HL.out).s0
            have hps1 := (HF.out p HL.out).s1
            have hcs0 := (HF.out c hcL).s0
            have hcs1 := (HF.out c hcL).s1
            have hT2 := hTd.set (p' := waitP p c) HL.out rfl 6 (.int .i64 (p.share + (c.share + 1))) (fun a b c d => rfl) rfl rfl rfl rfl
            rw [← HG.out] at hT2
            have hT2d := hT2.below (w' := (j.w.setCell ⟨g, 6, none⟩ (.int .i64 (p.share + (c.share + 1)))).drew) ((Below.refl _ _).drew)
            have cT2 := hT2d.cellT
            obtain ⟨W3, hdel, hT3, hB3, hs3, hfar3⟩ := hT2d.del c.id hmax 0
            have c7 : W3.drew.cell? ⟨gc, 7, none⟩ = some (.int .i64 c.status) := by
              have e1 : W3.drew.heap[gc]? = j.w.heap[gc]? := (hfar3 gc hgM).trans (heap_setCell_other _ ⟨g, 6, none⟩ gc _ hgg)
              rw [World.cell?_of_block (w := j.w) (w' := W3.drew) (a := ⟨gc, 7, none⟩) e1, HGC.out]
              exact hcd.cell 7
            have c7' : W3.cell? ⟨gc, 7, none⟩ = some (.int .i64 c.status) := c7
            have hT4 : TabAt W3.drew B T M bl (delP c.id (updP (waitP p c) L)) := hT3.below ((Below.refl _ _).drew)
            have hBg : B ≤ g := by rw [HG.out]; exact hTd.lowP p HL.out
            have hB4 : Bel B w0 W3.drew := (HB1.out.trans ((hbr.trans (kd.mono hbr.size)).bel HBW.out)).trans (((Bel.refl B j.w).set66 (by rw [HG.out]; exact hpd.row) hBg _ hTd.lowB).drew.trans hB3).drew
            have hfi : waitFind L id p = some c := List.find?_eq_some_iff_getElem.2 ⟨HTK.out, i, hiL, HCI.out.symm, fun k hk => by
              have := hno (L[k]'(by omega)) (List.mem_take_iff_getElem.2 ⟨k, by omega, rfl⟩)
              simp [this]⟩
            have HT4 := Lib.hid hT4
            have HB4 := Lib.hid hB4
            have HFI := Lib.hid hfi
            clear hT2 hT2d hT3 hT4 hB4 hfi hpd hcd hTd hfar3 hB3 hno hnos hany
            go_wp2
            go_region
            all_goals
              go_wp2
              go_region
            all_goals
              go_wp2
              go_ret3
              exact ⟨.inl ⟨c, HFI.out, rfl, HT4.out⟩, HB4.out⟩
      · have d1 : (c.par.toList == id.toList) = false := by rw [str_eq]; simpa using hpar
        have hch : childOf id c = false := by simpa [childOf] using hpar
        rw [hch, Bool.or_false] at hany
        have hnos := hnos (by unfold takes; rw [hch]; rfl)
        go_wp2
        go_roundw
        case rel => exact ⟨i + 1, by omega, rfl, by rw [hany], hnos, hbr⟩
        case measure => simp [intOf]; omega
    · obtain rfl : i = n := by omega
      have htk : L.take i = L := by rw [HN.out, List.take_length]
      rw [htk] at hno ⊢
      have hf : waitFind L id p = none := List.find?_eq_none.2 (fun q hq => by simp [hno q hq])
      obtain ⟨b, hb⟩ : ∃ b, b = L.any (childOf id) := ⟨_, rfl⟩
      have HBE := Lib.hid hb
      rw [← hb]
      have HFI := Lib.hid hf
      clear hf
      have hfin : Bel B w0 wr := HB1.out.trans (hbr.bel HBW.out)
      have hTr := HT1.out.below hbr
      clear hb hno htk
      cases b
      · go_wp2
        go_ret3
        exact ⟨.inr ⟨HFI.out, by rw [← HBE.out]; rfl, hTr⟩, hfin⟩
      · go_wp2
        go_ret3
        exact ⟨.inr ⟨HFI.out, by rw [← HBE.out]; rfl, hTr⟩, hfin⟩
set_option maxRecDepth 100000 in
theorem wait_no (B T M : Nat) (bl : ByteArray → Nat) (L : List PR) (id : ByteArray) (w : World) (h : TabAt w B T M bl L) (hid : id.size ≤ maxLen) (hc : ofCode L id ≠ 0) :
    Calls Tryz.prog 29 #[ptr T, .string id] w fun e w' => e = .returned (.tuple #[.string ⟨#[]⟩, .int .i64 0, .int .i64 (ofCode L id)]) ∧ w' = w := by
  have ho := of_any B T M bl L id w h hid
  rcases of_cases bl L id with ⟨p, hg, hx, e1, e2⟩ | ⟨e1, e2, e3⟩
  · exact absurd e2 hc
  · rw [e1] at ho
    generalize ofCode L id = c at *
    unfold ptr at *
    go_enter Tryz.func29, Tryz.ntmps29
    go_wp2_with (go_at_call 23; refine ho.mono ?_; rintro e w1 ⟨rfl, rfl⟩)
    go_ret3
    exact ⟨rfl, rfl⟩
end Go.Proofs.YtmphnoabkmoafaaGreatDoor
