/- The walk of ProcCaps. -/
import Derived.Test.YtmphnoabkmoafaaGreatDoorM37
import Derived.Test.YtmphnoabkmoafaaGreatDoorM40
import Derived.Test.YtmphnoabkmoafaaGreatDoorM42
import Derived.Test.YtmphnoabkmoafaaGreatDoorM45
import Derived.Test.YtmphnoabkmoafaaGreatDoorM46
import Derived.Test.YtmphnoabkmoafaaGreatDoorM47
import Derived.Test.YtmphnoabkmoafaaGreatDoorM25
import Derived.Deep.DeepCutAuto
import Derived.Deep.CutBlock
namespace Go.Proofs.YtmphnoabkmoafaaGreatDoor
open Go.RowKit Go.Maps
set_option linter.unusedVariables false
variable {uu0 : Unit} [Base uu0]
theorem Good.ne {L : List PR} (h : Good 41 L) : 0 < L.length := by
  obtain ⟨th, hi⟩ := h.inv
  rcases L with _ | ⟨p, r⟩
  · have := hi.sum
    simp [sumS] at this
  · simp
theorem good_first : Good 41 [firstP 40] := ⟨⟨_, inv_first 40 (by omega) (by omega)⟩, fun p hp => by rw [List.mem_singleton.1 hp]; exact ⟨by show (0 : Int) ≤ 0; omega, by show (0 : Int) < 65536; omega⟩⟩
theorem OpRd.below {w w' : World} {B : Nat} {o : OpP} {s : OpS} (h : OpRd w o s) (k : Below B w w') (hB : w.heap.size ≤ B) : OpRd w' o s :=
  ⟨h.who, h.to, h.iS.below k hB, h.iI.below k hB, h.iP.below k hB, h.iM.below k hB, h.nS, h.nI, h.nP, h.nM⟩
theorem more_getD (x : CP) (P M : List Int) : (moreC x P M).getD ([], []) = (onlyIf (joinOk x.1 P && joinOk x.2 M) (joinL x.1 P), onlyIf (joinOk x.1 P && joinOk x.2 M) (joinL x.2 M)) := by
  unfold moreC
  cases h : (joinOk x.1 P && joinOk x.2 M)
  · rfl
  · rfl
theorem capsOf_len {L : List PR} (hF : ∀ q ∈ L, Fine q) (id : ByteArray) : (capsOf L id).1.length ≤ 17592186043904 ∧ (capsOf L id).2.length ≤ 17592186043904 := by
  unfold capsOf
  cases hg : get L id with
  | none => exact ⟨Nat.zero_le _, Nat.zero_le _⟩
  | some q => exact ⟨(hF q (get_mem hg).1).lP, (hF q (get_mem hg).1).lM⟩
theorem more_len (x : CP) (P M : List Int) {y : CP} (h : y.1.length ≤ 17592186043904 ∧ y.2.length ≤ 17592186043904) : ((moreC x P M).getD y).1.length ≤ 17592186043904 ∧ ((moreC x P M).getD y).2.length ≤ 17592186043904 := by
  unfold moreC
  split
  · have h1 := length_joinL' x.1 P
    have h2 := length_joinL' x.2 M
    exact ⟨by show (joinL x.1 P).length ≤ _; omega, by show (joinL x.2 M).length ≤ _; omega⟩
  · exact h
theorem fork_name {tot : Int} {th : List ByteArray} {L : List PR} (h : Inv tot th L) (o : OpP) (k0 : o.kind = 0) (he : (act o L).1.e = 0) : (act o L).1.s.size ≤ 17 := by
  unfold act at he ⊢
  cases hw : get L o.who with
  | none => rw [hw] at he; simp only at he; rw [k0] at he; exact absurd he (by decide)
  | some p =>
    rw [hw] at he
    simp only at he ⊢
    by_cases hpx : p.exited = true
    · rw [if_pos hpx] at he; rw [k0] at he; exact absurd (show (50 : Int) = 0 from he) (by decide)
    rw [if_neg hpx] at he ⊢
    unfold actLive at he ⊢
    rw [if_pos k0] at he ⊢
    unfold forkA at he ⊢
    by_cases hc : forkC p o.who o.a = 0
    · rw [if_pos hc]
      simp only
      have hF := h.fine p (get_mem hw).1
      have hpid : o.who = p.id := (get_mem hw).2.symm
      have hf9 : p.forks < 9 := by
        unfold forkC at hc
        by_cases h1 : o.a < 0
        · rw [if_pos h1] at hc; omega
        · rw [if_neg h1] at hc
          by_cases h2 : p.share ≤ o.a ∨ 9 ≤ p.forks ∨ 15 ≤ o.who.size
          · rw [if_pos h2] at hc; omega
          · omega
      have h0 := hF.f0
      have h1 := hF.id1
      rw [hpid, childId_size (by omega) (by omega)]
      omega
    · rw [if_neg hc] at he
      exact absurd he hc
/-- A box of capabilities is turned. -/
theorem BoxC.turn {w w' : World} {b : Nat} {x y : Value} {c : CP} (h : AtT 34 w w' b #[x, y]) (h1 : IntsAt w x c.1) (h2 : IntsAt w y c.2) (hlo : Base.lo ≤ b) : BoxC w' b c := ⟨x, y, h.row, h1.keep (h.keep3 (by decide) hlo), h2.keep (h.keep3 (by decide) hlo)⟩
theorem BoxC.apart {w w' : World} {b b' : Nat} {cs : Array Value} {c : CP} (h : BoxC w b c) (k : AtT 34 w w' b' cs) (hne : b ≠ b') (hlo : Base.lo ≤ b') : BoxC w' b c := by
  obtain ⟨x, y, h0, h1, h2⟩ := h
  exact ⟨x, y, (k.far b hne).trans h0, h1.keep (k.keep3 (by decide) hlo), h2.keep (k.keep3 (by decide) hlo)⟩
set_option maxRecDepth 100000 in
set_option maxHeartbeats 20000000 in
theorem proccaps_any (v : Value) (n : Nat) (F : Nat → OpP × OpS) (w : World) (hlo : Base.lo = w.heap.size) (hb : OpsIn w v n F) (hT : _root_.Go.Proofs.TabAt 1 Lib.deBruijn64tab w) (h1 : 1 < w.heap.size) :
    Calls Tryz.prog 5 #[v] w fun e w' => e = .returned (.bool true) ∧ Below w.heap.size w w' := by
  obtain ⟨ao, cap, rfl, hn, hcells⟩ := hb
  have HC := Lib.hid hcells
  have HDB := Lib.hid hT
  have H1 := Lib.hid h1
  have HLO := Lib.hid hlo
  have X0 := Lib.hid (new_ok 40 w (by omega) (by omega) (by omega))
  clear hcells hT h1 hlo
  unfold ptr at X0
  go_enter Tryz.func5, Tryz.ntmps5
  go_upto_region 2 with (go_at_call 6; refine X0.out.mono ?_; rintro e w1 ⟨T, M, bl, rfl, t1, b1⟩)
  obtain ⟨W1, hW1⟩ : ∃ W1, W1 = w1.alloc (.cells #[.pointer (some ⟨T, 0, none⟩)] 24) := ⟨_, rfl⟩
  obtain ⟨tb, htb⟩ : ∃ tb, tb = w1.heap.size := ⟨_, rfl⟩
  have a1 : Below w1.heap.size w1 W1 := by rw [hW1]; exact (Below.refl _ _).alloc (Nat.le_refl _) _
  have rowT : W1.heap[tb]? = some (.cells #[.pointer (some ⟨T, 0, none⟩)] 24 (0, 0)) := by rw [hW1, htb]; exact heap_alloc_new w1 _
  have ct : W1.cell? ⟨tb, 0, none⟩ = some (.pointer (some ⟨T, 0, none⟩)) := by rw [cell_of_row _ _ 0 _ 24 (0, 0) rowT]; rfl
  rw [← hW1, ← htb]
  have HT0 := Lib.hid (t1.below a1)
  have HB0 := Lib.hid (b1.trans (a1.mono b1.size))
  have HR0 := Lib.hid rowT
  clear X0 t1 b1 a1 rowT hW1 htb
  have hmf : ∀ (fn : Fn) (first cap : Array Value) (w : World), (Instr.makeFunc fn first cap).run Tryz.prog w = .ok (.func fn first cap) w := fun _ _ _ _ => rfl
  go_wp2
  go_loopw [6, 7, 8, 9, 10, 11, 12, 13, 14, 15, 16, 17, 18, 19] (fun vi _ _ _ _ _ _ _ _ _ _ _ _ _ wr => ∃ (i : Nat) (L : List PR) (bl : ByteArray → Nat), vi = .int .i64 i ∧ i ≤ n ∧ Good 41 L ∧ TabAt wr w.heap.size T M bl L ∧ Below w.heap.size w wr ∧ wr.heap[tb]? = some (.cells #[.pointer (some ⟨T, 0, none⟩)] 24 (0, 0))) (fun vi _ _ _ _ _ _ _ _ _ _ _ _ _ _ => n - (intOf vi).toNat)
  case atStart => exact ⟨0, _, bl, rfl, by omega, good_first, HT0.out, HB0.out, HR0.out⟩
  case round =>
    obtain ⟨i, L, bl3, rfl, hi1, hG, hTr, hBr, hRr⟩ := hrel
    by_cases hi : i < n ∧ i < 50
    · obtain ⟨hi, hi50⟩ := hi
      obtain ⟨hrd, b, off, rfl, hbl, hcs⟩ := HC.out i hi
      obtain ⟨o, s, hF⟩ : ∃ o s, F i = (o, s) := ⟨_, _, rfl⟩
      rw [hF] at hrd hcs
      simp only at hrd hcs
      have hcw : ∀ j, j < 8 → wr.cell? ⟨b, off + (i * 8 + j), none⟩ = (opCellsL o s)[j]? := fun j hj => (hBr.cell (p := ⟨b, off + (i * 8 + j), none⟩) hbl).trans (hcs j hj)
      have q0 : wr.cell? ⟨b, off + i * 8, none⟩ = some (.int .i64 o.kind) := hcw 0 (by omega)
      have q1 : wr.cell? ⟨b, off + i * 8 + 1, none⟩ = some (.int .i64 o.a) := by rw [Nat.add_assoc]; exact hcw 1 (by omega)
      have q2 : wr.cell? ⟨b, off + i * 8 + 2, none⟩ = some (.string o.who) := by rw [Nat.add_assoc]; exact hcw 2 (by omega)
      have q3 : wr.cell? ⟨b, off + i * 8 + 3, none⟩ = some (.string o.to) := by rw [Nat.add_assoc]; exact hcw 3 (by omega)
      have q4 : wr.cell? ⟨b, off + i * 8 + 4, none⟩ = some (.slice s.a1 s.n1 s.c1) := by rw [Nat.add_assoc]; exact hcw 4 (by omega)
      have q5 : wr.cell? ⟨b, off + i * 8 + 5, none⟩ = some (.slice s.a2 s.n2 s.c2) := by rw [Nat.add_assoc]; exact hcw 5 (by omega)
      have q6 : wr.cell? ⟨b, off + i * 8 + 6, none⟩ = some (.slice s.a3 s.n3 s.c3) := by rw [Nat.add_assoc]; exact hcw 6 (by omega)
      have q7 : wr.cell? ⟨b, off + i * 8 + 7, none⟩ = some (.slice s.a4 s.n4 s.c4) := by rw [Nat.add_assoc]; exact hcw 7 (by omega)
      have HRD := Lib.hid hrd
      have HG := Lib.hid hG
      have HTr := Lib.hid hTr
      have HBr := Lib.hid hBr
      have HRr := Lib.hid hRr
      clear hrd hcs hcw hG hTr hBr hRr hF HT0 HB0 HR0 ct HC
      obtain ⟨K, hK⟩ : ∃ K, K = o.kind := ⟨_, rfl⟩
      obtain ⟨A, hA⟩ : ∃ A, A = o.a := ⟨_, rfl⟩
      obtain ⟨who, hwho⟩ : ∃ x, x = o.who := ⟨_, rfl⟩
      obtain ⟨tn, hto⟩ : ∃ x, x = o.to := ⟨_, rfl⟩
      obtain ⟨a1, n1, c1, a2, n2, c2, a3, n3, c3, a4, n4, c4⟩ := s
      simp only at q4 q5 q6 q7
      rw [← hK] at q0
      rw [← hA] at q1
      rw [← hwho] at q2
      rw [← hto] at q3
      have HK := Lib.hid hK
      have HA := Lib.hid hA
      have HW := Lib.hid hwho
      have HTO := Lib.hid hto
      clear hK hA hwho hto
      go_upto_region 9 with (fail)
      obtain ⟨W1, hW1⟩ : ∃ W1, W1 = wr.alloc (.cells #[.int .i64 K, .int .i64 A, .string who, .string tn, .slice a1 n1 c1, .slice a2 n2 c2, .slice a3 n3 c3, .slice a4 n4 c4] 36) := ⟨_, rfl⟩
      obtain ⟨ob, hob⟩ : ∃ ob, ob = wr.heap.size := ⟨_, rfl⟩
      have hal : Below wr.heap.size wr W1 := by rw [hW1]; exact (Below.refl _ _).alloc (Nat.le_refl _) _
      have hrow1 : W1.heap[ob]? = some (.cells #[.int .i64 K, .int .i64 A, .string who, .string tn, .slice a1 n1 c1, .slice a2 n2 c2, .slice a3 n3 c3, .slice a4 n4 c4] 36 (0, 0)) := by rw [hW1, hob]; exact heap_alloc_new wr _
      rw [← hW1, ← hob]
      have T1 := Lib.hid (HTr.out.below hal)
      have B1 := Lib.hid (HBr.out.trans (hal.mono HBr.out.size))
      have RT1 := Lib.hid ((hal.block _ (Array.getElem?_eq_some_iff.1 HRr.out).1).trans HRr.out)
      have RO1 := Lib.hid hrow1
      have k0 : W1.cell? ⟨ob, 0, none⟩ = some (.int .i64 K) := by rw [cell_of_row W1 ob 0 _ 36 (0, 0) hrow1]; rfl
      clear q0 q1 q2 q3 q4 q5 q6 q7 hW1 hal hrow1 HTr HBr HRr hob hbl
      by_cases hk : K = 7 ∨ K = 11
      · rcases hk with rfl | rfl
        all_goals
          go_wp2
          go_roundw
          case rel => exact ⟨i + 1, L, bl3, by go_num, by omega, HG.out, T1.out, B1.out, RT1.out⟩
          case measure => simp [intOf]; omega
      · have d7 : (K == 7) = false := beq_eq_false_iff_ne.2 (fun e => hk (.inl e))
        have d11 : (K == 11) = false := beq_eq_false_iff_ne.2 (fun e => hk (.inr e))
        have HK7 := Lib.hid hk
        obtain ⟨th, hinv⟩ := HG.out.inv
        have HI := Lib.hid hinv
        have KL := Lib.hid (live_any W1 T1.out HG.out.ne (by have := hinv.len; omega) (fun p hp => by have := (hinv.fine p hp).id1; unfold maxLen; omega))
        unfold ptr at KL
        have kt : W1.cell? ⟨tb, 0, none⟩ = some (.pointer (some ⟨T, 0, none⟩)) := by rw [cell_of_row _ _ 0 _ 24 (0, 0) RT1.out]; rfl
        clear hinv hk
        go_upto_region 11 with (go_at_call 17; refine KL.out.mono ?_; rintro e w2 ⟨vl, rfl, hR2, b2⟩)
        obtain ⟨ids, hids⟩ : ∃ ids, ids = (L.filter fun p => !p.exited).map PR.id := ⟨_, rfl⟩
        rw [← hids] at hR2
        have HIDS := Lib.hid hids
        have hR2' := hR2
        obtain ⟨aol, cl, rfl, _⟩ := hR2'
        obtain ⟨n2, hn2⟩ : ∃ n2, n2 = ids.length := ⟨_, rfl⟩
        have HN2 := Lib.hid hn2
        rw [← hn2] at hR2 ⊢
        have T2 := Lib.hid (T1.out.below b2)
        have B2 := Lib.hid (B1.out.trans (b2.mono B1.out.size))
        have RT2 := Lib.hid ((b2.block _ (Array.getElem?_eq_some_iff.1 RT1.out).1).trans RT1.out)
        have RO2 := Lib.hid ((b2.block _ (Array.getElem?_eq_some_iff.1 RO1.out).1).trans RO1.out)
        have R2 := Lib.hid hR2
        have hidsz : ∀ x ∈ ids, x.size ≤ maxLen := fun x hx => by
          rw [hids] at hx
          obtain ⟨p, hp, rfl⟩ := List.mem_map.1 hx
          have := (HI.out.fine p (List.mem_filter.1 hp).1).id1
          unfold maxLen; omega
        have hn2l : n2 ≤ 1000 := by
          have h1 := List.length_filter_le (fun p : PR => !p.exited) L
          have h2 := HI.out.len
          rw [hn2, hids, List.length_map]; omega
        have HSZ := Lib.hid hidsz
        clear hids hn2 hR2 b2 KL hidsz T1 B1 RT1 RO1 k0 kt
        go_wp2
        go_loopw [9, 10] (fun u9 u10 wx => ∃ k : Nat, u10 = .int .i64 k ∧ k ≤ n2 ∧ CapsRow wx w.heap.size u9 ((ids.take k).map (capsOf L)) ∧ Fr34 w2 wx ∧ Below w.heap.size w2 wx) (fun _ u10 _ => n2 - (intOf u10).toNat)
        case atStart => exact ⟨0, rfl, by omega, CapsRow.nil _ _, Fr34.refl _, Below.refl _ _⟩
        case round =>
          obtain ⟨k, rfl, hk2, hC, hF, hB⟩ := hrel
          have hclen : ((ids.take k).map (capsOf L)).length = k := by rw [List.length_map, List.length_take]; have := HN2.out; omega
          obtain ⟨aoc, cc, hvc⟩ := hC.shape
          rw [hclen] at hvc
          subst hvc
          have HCR := Lib.hid hC
          have HFR := Lib.hid hF
          have HBX := Lib.hid hB
          have HCL := Lib.hid hclen
          clear hC hF hB hclen
          by_cases hkl : k < n2
          · have hkl' : k < ids.length := by rw [← HN2.out]; exact hkl
            obtain ⟨g, c', hv, hgl, cg⟩ := (R2.out.fr34 HFR.out).cell hkl'
            obtain ⟨rfl, rfl⟩ : aol = some ⟨g, 0, none⟩ ∧ cl = c' := by simp at hv; exact ⟨hv.1, hv.2.2⟩
            obtain ⟨id, hid⟩ : ∃ id, id = ids[k] := ⟨_, rfl⟩
            rw [← hid] at cg
            have hrowt := HFR.out.row RT2.out (by decide)
            have ctb : wr.cell? ⟨tb, 0, none⟩ = some (ptr T) := by rw [cell_of_row _ _ 0 _ 24 (0, 0) hrowt]; rfl
            have KC := Lib.hid (capsf_any w.heap.size T M bl3 L id wr (T2.out.fr34 HFR.out HBX.out) HI.out.fine (by rw [hid]; exact HSZ.out _ (List.getElem_mem hkl')) tb ctb (Array.getElem?_eq_some_iff.1 hrowt).1)
            have Hid' := Lib.hid hid
            have hwx : w.heap.size ≤ wr.heap.size := by have := B2.out.size; have := HBX.out.size; omega
            have hlo : Base.lo ≤ w.heap.size := by rw [HLO.out]; exact Nat.le_refl _
            have HKL := Lib.hid hkl'
            clear hv hid hrowt
            unfold ptr at KC
            clear ctb
            go_wp2_with (first
              | (go_at_call 19; refine KC.out.mono ?_; rintro e w3 ⟨x, y, rfl, ix, iy, b3⟩; obtain ⟨xa, xn, xc, rfl⟩ := ix.shape3; obtain ⟨ya, yn, yc, rfl⟩ := iy.shape3; have A3 := Lib.hid (b3.alloc b3.size (.cells #[.slice xa xn xc, .slice ya yn yc] 34)); have IX := Lib.hid (ix.alloc (.cells #[.slice xa xn xc, .slice ya yn yc] 34)); have IY := Lib.hid (iy.alloc (.cells #[.slice xa xn xc, .slice ya yn yc] 34)); have C3 := Lib.hid (HCR.out.bel (A3.out.bel hwx)); have Z0 : Hid ((w3.alloc (.cells #[.slice xa xn xc, .slice ya yn yc] 34)).cell? ⟨w3.heap.size, 0, none⟩ = some (.slice xa xn xc)) := by { show _ = _; rw [cell_of_row _ _ 0 _ 34 (0, 0) (heap_alloc_new _ _)]; rfl }; have Z1 : Hid ((w3.alloc (.cells #[.slice xa xn xc, .slice ya yn yc] 34)).cell? ⟨w3.heap.size, 1, none⟩ = some (.slice ya yn yc)) := by { show _ = _; rw [cell_of_row _ _ 1 _ 34 (0, 0) (heap_alloc_new _ _)]; rfl }; clear ix iy b3)
              | ((with_reducible show wpList _ _ _ (⟨some 69, _, _, _, _, _⟩ :: _) _ _); go_must (refine wpList_append_c rfl _ _ rfl w.heap.size _ ((ids.take k).map (capsOf L)) rfl C3.out w3.heap.size 1 _ _ (capsOf L id) rfl Z0.out Z1.out IX.out IY.out (by rw [HCL.out]; omega) (Nat.le_trans hwx A3.out.size) hlo ?_; intro v4 w4 hc4 hf4 hb4; have C4 := Lib.hid hc4; have F4 := Lib.hid ((HFR.out.trans (Fr34.of_below A3.out)).trans hf4); have B4 := Lib.hid ((HBX.out.trans (A3.out.mono hwx)).trans hb4); clear hc4 hf4 hb4; simp only [Act.put, List.setIfInBounds_toArray, List.set_cons_zero, List.set_cons_succ])))
            go_roundw
            case rel =>
              refine ⟨k + 1, by go_num, by omega, ?_, F4.out, B4.out⟩
              rw [List.take_succ_eq_append_getElem HKL.out, List.map_append, ← Hid'.out]
              exact C4.out
            case measure => simp [intOf]; omega
          · obtain rfl : k = n2 := by omega
            have T3 := Lib.hid (T2.out.fr34 HFR.out HBX.out)
            have RT3 := Lib.hid (HFR.out.row RT2.out (by decide))
            have RO3 := Lib.hid (HFR.out.row RO2.out (by decide))
            have R3 := Lib.hid (R2.out.fr34 HFR.out)
            have B3 := Lib.hid (B2.out.trans HBX.out)
            have C3 : Hid (CapsRow wr w.heap.size (.slice aoc k cc) (ids.map (capsOf L))) := by
              have h := HCR.out
              rw [List.take_of_length_le (by rw [← HN2.out]; exact Nat.le_refl _)] at h
              exact h
            have t0 : wr.cell? ⟨tb, 0, none⟩ = some (.pointer (some ⟨T, 0, none⟩)) := by rw [cell_of_row _ _ 0 _ 24 (0, 0) RT3.out]; rfl
            have o2 : wr.cell? ⟨ob, 2, none⟩ = some (.string who) := by rw [cell_of_row _ _ 2 _ 36 (0, 0) RO3.out]; rfl
            have KO := Lib.hid (capsf_any w.heap.size T M bl3 L who wr T3.out HI.out.fine (by rw [HW.out]; exact HRD.out.who) tb t0 (Array.getElem?_eq_some_iff.1 RT3.out).1)
            unfold ptr at KO
            clear hkl HCR HCL HFR HBX T2 RT2 RO2 R2 B2
            go_upto_region 17 with (go_at_call 19; refine KO.out.mono ?_; rintro e w4 ⟨x, y, rfl, ix, iy, b4⟩; obtain ⟨xa, xn, xc, rfl⟩ := ix.shape3; obtain ⟨ya, yn, yc, rfl⟩ := iy.shape3)
            obtain ⟨W5, hW5⟩ : ∃ W5, W5 = w4.alloc (.cells #[.slice xa xn xc, .slice ya yn yc] 34) := ⟨_, rfl⟩
            obtain ⟨bo, hbo⟩ : ∃ bo, bo = w4.heap.size := ⟨_, rfl⟩
            have a5 : Below w4.heap.size w4 W5 := by rw [hW5]; exact (Below.refl _ _).alloc (Nat.le_refl _) _
            have rowB : W5.heap[bo]? = some (.cells #[.slice xa xn xc, .slice ya yn yc] 34 (0, 0)) := by rw [hW5, hbo]; exact heap_alloc_new w4 _
            have A5 := Lib.hid (b4.trans (a5.mono b4.size))
            have BO5 : Hid (BoxC W5 bo (capsOf L who)) := ⟨_, _, rowB, ix.below a5 (Nat.le_refl _), iy.below a5 (Nat.le_refl _)⟩
            have hw3 : w.heap.size ≤ wr.heap.size := B3.out.size
            have T5 := Lib.hid (T3.out.below A5.out)
            have RT5 := Lib.hid ((A5.out.block _ (Array.getElem?_eq_some_iff.1 RT3.out).1).trans RT3.out)
            have RO5 := Lib.hid ((A5.out.block _ (Array.getElem?_eq_some_iff.1 RO3.out).1).trans RO3.out)
            have R5 := Lib.hid (R3.out.below A5.out)
            have C5 := Lib.hid (C3.out.bel (A5.out.bel hw3))
            have B5 := Lib.hid (B3.out.trans (A5.out.mono hw3))
            rw [← hW5, ← hbo]
            have t1 : W5.cell? ⟨tb, 0, none⟩ = some (.pointer (some ⟨T, 0, none⟩)) := by rw [cell_of_row _ _ 0 _ 24 (0, 0) RT5.out]; rfl
            have p0 : W5.cell? ⟨ob, 0, none⟩ = some (.int .i64 K) := by rw [cell_of_row _ _ 0 _ 36 (0, 0) RO5.out]; rfl
            have p1 : W5.cell? ⟨ob, 1, none⟩ = some (.int .i64 A) := by rw [cell_of_row _ _ 1 _ 36 (0, 0) RO5.out]; rfl
            have p2 : W5.cell? ⟨ob, 2, none⟩ = some (.string who) := by rw [cell_of_row _ _ 2 _ 36 (0, 0) RO5.out]; rfl
            have p3 : W5.cell? ⟨ob, 3, none⟩ = some (.string tn) := by rw [cell_of_row _ _ 3 _ 36 (0, 0) RO5.out]; rfl
            have p4 : W5.cell? ⟨ob, 4, none⟩ = some (.slice a1 n1 c1) := by rw [cell_of_row _ _ 4 _ 36 (0, 0) RO5.out]; rfl
            have p5 : W5.cell? ⟨ob, 5, none⟩ = some (.slice a2 n2 c2) := by rw [cell_of_row _ _ 5 _ 36 (0, 0) RO5.out]; rfl
            have p6 : W5.cell? ⟨ob, 6, none⟩ = some (.slice a3 n3 c3) := by rw [cell_of_row _ _ 6 _ 36 (0, 0) RO5.out]; rfl
            have p7 : W5.cell? ⟨ob, 7, none⟩ = some (.slice a4 n4 c4) := by rw [cell_of_row _ _ 7 _ 36 (0, 0) RO5.out]; rfl
            have hrd5 := HRD.out.below B5.out (Nat.le_refl _)
            obtain ⟨rr, L', hact⟩ : ∃ rr L', act o L = (rr, L') := ⟨_, _, rfl⟩
            have HACT := Lib.hid hact
            have KT : Hid (Calls Tryz.prog 10 #[.pointer (some ⟨T, 0, none⟩), .agg #[.int .i64 K, .int .i64 A, .string who, .string tn, .slice a1 n1 c1, .slice a2 n2 c2, .slice a3 n3 c3, .slice a4 n4 c4]] W5 fun e w' => e = .returned (.tuple #[.int .i64 rr.n, .string rr.s, .int .i64 rr.e]) ∧ ∃ bl', TabAt w' w.heap.size T M bl' L' ∧ Bel w.heap.size W5 w') := by
              have h := told_any w.heap.size T M bl3 L o a1 a2 a3 a4 n1 n2 n3 n4 c1 c2 c3 c4 W5 T5.out HG.out HRD.out.who HRD.out.to hrd5.iS hrd5.iI hrd5.iP hrd5.iM hrd5.nS hrd5.nI hrd5.nP hrd5.nM (tab_below HDB.out B5.out H1.out) (Nat.lt_of_lt_of_le H1.out B5.out.size)
              unfold ActP opVal at h
              rw [hact] at h
              rw [HK.out, HA.out, HW.out, HTO.out]
              exact h
            have G6 : Hid (Good 41 L') := by have h := HG.out.act o; rw [hact] at h; exact h
            clear hact hrd5 hW5 hbo a5 rowB ix iy b4 KO t0 o2 T3 RT3 RO3 R3 C3 B3 A5
            obtain ⟨rn, rs, re⟩ := rr
            simp only at KT
            go_upto_region 18 with (go_at_call 10; refine KT.out.mono ?_; rintro e w6 ⟨rfl, bl6, t6, b6⟩)
            have T6 := Lib.hid t6
            have RT6 := Lib.hid (b6.still _ _ _ _ RT5.out (by decide))
            have RO6 := Lib.hid (b6.still _ _ _ _ RO5.out (by decide))
            have R6 := Lib.hid (R5.out.still b6.still)
            have C6 := Lib.hid (C5.out.bel b6)
            have BO6 := Lib.hid (BO5.out.bel b6)
            have B6 := Lib.hid (B5.out.trans b6.toBelow)
            clear t6 b6 t1 p0 p1 p2 p3 p4 p5 p6 p7 KT T5 RT5 RO5 R5 C5 B5 BO5
            go_wp2
            go_loopw [15, 16, 17, 18, 19] (fun u15 _ _ _ _ wx => ∃ j : Nat, u15 = .int .i64 j ∧ j ≤ k ∧ Below w6.heap.size w6 wx) (fun u15 _ _ _ _ _ => k - (intOf u15).toNat)
            case atStart => exact ⟨0, rfl, by omega, Below.refl _ _⟩
            case round =>
              obtain ⟨j, rfl, hjk, hB⟩ := hrel
              have HBJ := Lib.hid hB
              clear hB
              by_cases hj : j < k
              · have hjL : j < ids.length := by rw [← HN2.out]; exact hj
                obtain ⟨id, hid⟩ : ∃ id, id = ids[j] := ⟨_, rfl⟩
                obtain ⟨g, c', hv, hgl, cg⟩ := (R6.out.below HBJ.out).cell hjL
                obtain ⟨rfl, rfl⟩ : aol = some ⟨g, 0, none⟩ ∧ cl = c' := by simp at hv; exact ⟨hv.1, hv.2.2⟩
                rw [← hid] at cg
                have hjm : j < (ids.map (capsOf L)).length := by rw [List.length_map]; exact hjL
                obtain ⟨gw, cw, px, py, hvw, hgw, cw0, cw1, iw0, iw1⟩ := (C6.out.bel (HBJ.out.bel (Nat.le_refl _))).cell hjm
                obtain ⟨rfl, rfl⟩ : aoc = some ⟨gw, 0, none⟩ ∧ cc = cw := by simp at hvw; exact ⟨hvw.1, hvw.2.2⟩
                have ew : (ids.map (capsOf L))[j] = capsOf L id := by rw [List.getElem_map, ← hid]
                rw [ew] at iw0 iw1
                obtain ⟨pxa, pxn, pxc, rfl⟩ := iw0.shape3
                obtain ⟨pya, pyn, pyc, rfl⟩ := iw1.shape3
                obtain ⟨th6, hinv6⟩ := G6.out.inv
                have RTJ := Lib.hid ((HBJ.out.block _ (Array.getElem?_eq_some_iff.1 RT6.out).1).trans RT6.out)
                have tj : wr.cell? ⟨tb, 0, none⟩ = some (.pointer (some ⟨T, 0, none⟩)) := by rw [cell_of_row _ _ 0 _ 24 (0, 0) RTJ.out]; rfl
                have KC := Lib.hid (capsf_any w.heap.size T M bl6 L' id wr (T6.out.below HBJ.out) hinv6.fine (by rw [hid]; exact HSZ.out _ (List.getElem_mem hjL)) tb tj (Array.getElem?_eq_some_iff.1 RTJ.out).1)
                unfold ptr at KC
                have HID := Lib.hid hid
                have HCG := Lib.hid cg
                have HCW0 := Lib.hid cw0
                have HCW1 := Lib.hid cw1
                have HGL := Lib.hid hgl
                have HGW := Lib.hid hgw
                have IW0 := Lib.hid iw0
                have IW1 := Lib.hid iw1
                have HJL := Lib.hid hjL
                clear hv hvw hjm ew hid cw0 cw1 hgl hgw iw0 iw1 hinv6
                go_upto_region 22 with (go_at_call 19; refine KC.out.mono ?_; rintro e w7 ⟨x, y, rfl, ix, iy, b7⟩; obtain ⟨xa, xn, xc, rfl⟩ := ix.shape3; obtain ⟨ya, yn, yc, rfl⟩ := iy.shape3)
                obtain ⟨W7, hW7⟩ : ∃ W7, W7 = w7.alloc (.cells #[.slice xa xn xc, .slice ya yn yc] 34) := ⟨_, rfl⟩
                obtain ⟨bN, hbN⟩ : ∃ bN, bN = w7.heap.size := ⟨_, rfl⟩
                have a7 : Below w7.heap.size w7 W7 := by rw [hW7]; exact (Below.refl _ _).alloc (Nat.le_refl _) _
                have BN7 : BoxC W7 bN (capsOf L' id) := ⟨_, _, by rw [hW7, hbN]; exact heap_alloc_new w7 _, ix.below a7 (Nat.le_refl _), iy.below a7 (Nat.le_refl _)⟩
                have A7 : Below wr.heap.size wr W7 := b7.trans (a7.mono b7.size)
                have hNl : bN < W7.heap.size := by rw [hW7, hbN]; simp
                rw [← hW7, ← hbN]
                have u0 : W7.cell? ⟨gw, j * 2, none⟩ = some (.slice pxa pxn pxc) := (A7.cell (p := ⟨gw, j * 2, none⟩) HGW.out).trans HCW0.out
                have u1 : W7.cell? ⟨gw, j * 2 + 1, none⟩ = some (.slice pya pyn pyc) := (A7.cell (p := ⟨gw, j * 2 + 1, none⟩) HGW.out).trans HCW1.out
                have HA7 := Lib.hid A7
                have HBN7 := Lib.hid BN7
                have HNL := Lib.hid hNl
                have HBNG : Hid (w6.heap.size ≤ bN) := by have := HBJ.out.size; have := b7.size; show w6.heap.size ≤ bN; omega
                clear hW7 hbN a7 ix iy b7 A7 BN7 tj cg KC hNl
                go_upto_region 23 with (fail)
                obtain ⟨W8, hW8⟩ : ∃ W8, W8 = W7.alloc (.cells #[.slice pxa pxn pxc, .slice pya pyn pyc] 34) := ⟨_, rfl⟩
                obtain ⟨bM, hbM⟩ : ∃ bM, bM = W7.heap.size := ⟨_, rfl⟩
                have a8 : Below W7.heap.size W7 W8 := by rw [hW8]; exact (Below.refl _ _).alloc (Nat.le_refl _) _
                have A8 : Below wr.heap.size wr W8 := HA7.out.trans (a8.mono HA7.out.size)
                have BN8 := Lib.hid (HBN7.out.below a8)
                have BM8 : Hid (BoxC W8 bM (capsOf L id)) := ⟨_, _, by rw [hW8, hbM]; exact heap_alloc_new W7 _, IW0.out.below A8 (Nat.le_refl _), IW1.out.below A8 (Nat.le_refl _)⟩
                have HNM : Hid (bN ≠ bM) := by have := HNL.out; show bN ≠ bM; omega
                have HMG : Hid (w6.heap.size ≤ bM) := by have := HBNG.out; have := HNL.out; show w6.heap.size ≤ bM; omega
                rw [← hW8, ← hbM]
                have HA8 : Hid (Below w6.heap.size w6 W8) := HBJ.out.trans (A8.mono HBJ.out.size)
                have cg8 : W8.cell? ⟨g, j, none⟩ = some (.string id) := (A8.cell (p := ⟨g, j, none⟩) HGL.out).trans HCG.out
                have HGL8 : Hid (g < W8.heap.size) := Nat.lt_of_lt_of_le HGL.out A8.size
                have HCG8 := Lib.hid cg8
                have RO8 := Lib.hid ((HA8.out.block _ (Array.getElem?_eq_some_iff.1 RO6.out).1).trans RO6.out)
                have v0 : W8.cell? ⟨ob, 0, none⟩ = some (.int .i64 K) := by rw [cell_of_row _ _ 0 _ 36 (0, 0) RO8.out]; rfl
                have v2 : W8.cell? ⟨ob, 2, none⟩ = some (.string who) := by rw [cell_of_row _ _ 2 _ 36 (0, 0) RO8.out]; rfl
                clear u0 u1 HA7 HBN7 a8 A8 hW8 hbM IW0 IW1 HCW0 HCW1 HGW
                obtain ⟨cA, hcA⟩ : ∃ cA : Bool, cA = decide (id = who ∧ K = 3 ∧ re = 0) := ⟨_, rfl⟩
                have HCA := Lib.hid hcA
                go_cut [16, 17, 112] (fun v16 v17 v wx => v16 = .pointer (some ⟨bN, 0, none⟩) ∧ v17 = .pointer (some ⟨bM, 0, none⟩) ∧ v = .bool cA ∧ Below W8.heap.size W8 wx)
                case first =>
                  have d1 : (id.toList == who.toList) = decide (id = who) := str_eq _ _
                  by_cases e1 : id = who
                  · have d1' : (id.toList == who.toList) = true := by rw [d1]; simpa using e1
                    by_cases e2 : K = 3
                    · have d2 : (K == 3) = true := by simpa using e2
                      by_cases e3 : re = 0
                      · have d3 : (re == 0) = true := by simpa using e3
                        have hh : cA = true := by rw [hcA]; simp [e1, e2, e3]
                        clear hcA d1 e1 e2 e3
                        subst hh
                        go_quiet (fail)
                        go_wp2
                        go_meet
                        case rel => exact ⟨rfl, rfl, rfl, below_drawn (Below.refl _ _) _⟩
                      · have d3 : (re == 0) = false := by simpa using e3
                        have hh : cA = false := by rw [hcA]; simp [e3]
                        clear hcA d1 e1 e2 e3
                        subst hh
                        go_quiet (fail)
                        go_wp2
                        go_meet
                        case rel => exact ⟨rfl, rfl, rfl, below_drawn (Below.refl _ _) _⟩
                    · have d2 : (K == 3) = false := by simpa using e2
                      have hh : cA = false := by rw [hcA]; simp [e2]
                      clear hcA d1 e1 e2
                      subst hh
                      go_quiet (fail)
                      go_wp2
                      go_meet
                      case rel => exact ⟨rfl, rfl, rfl, below_drawn (Below.refl _ _) _⟩
                  · have d1' : (id.toList == who.toList) = false := by rw [d1]; simpa using e1
                    have hh : cA = false := by rw [hcA]; simp [e1]
                    clear hcA d1 e1
                    subst hh
                    go_quiet (fail)
                    go_wp2
                    go_meet
                    case rel => exact ⟨rfl, rfl, rfl, below_drawn (Below.refl _ _) _⟩
                case rest =>
                  obtain ⟨rfl, rfl, rfl, hbc⟩ := hcut
                  have HBC := Lib.hid hbc
                  clear hbc hcA cg8 v0 v2
                  have HLM : Hid (Base.lo ≤ bM) := by have := HLO.out; have := B6.out.size; have := HMG.out; show Base.lo ≤ bM; omega
                  obtain ⟨mA, hmA⟩ : ∃ mA, mA = (if cA then (moreC (capsOf L id) [rn] [rn]).getD ([], []) else capsOf L id) := ⟨_, rfl⟩
                  have HMA := Lib.hid hmA
                  clear hmA
                  go_upto_if 112 with (fail)
                  go_cut [16, 17] (fun v16 v17 wx => v16 = .pointer (some ⟨bN, 0, none⟩) ∧ v17 = .pointer (some ⟨bM, 0, none⟩) ∧ BoxC wx bN (capsOf L' id) ∧ BoxC wx bM mA ∧ Below w6.heap.size w6 wx)
                  case first =>
                    have hNc := BN8.out.below HBC.out
                    have hMc := BM8.out.below HBC.out
                    have hBc : Below w6.heap.size w6 wc := HA8.out.trans (HBC.out.mono HA8.out.size)
                    cases cA
                    · have e : mA = capsOf L id := by rw [HMA.out]; rfl
                      rw [← e] at hMc
                      have H1' := Lib.hid hNc
                      have H2' := Lib.hid hMc
                      have H3' := Lib.hid hBc
                      clear hNc hMc hBc e
                      go_wp2
                      go_meet
                      case rel => exact ⟨rfl, rfl, H1'.out, H2'.out, H3'.out⟩
                    · have e : mA = (onlyIf (joinOk (capsOf L id).1 [rn] && joinOk (capsOf L id).2 [rn]) (joinL (capsOf L id).1 [rn]), onlyIf (joinOk (capsOf L id).1 [rn] && joinOk (capsOf L id).2 [rn]) (joinL (capsOf L id).2 [rn])) := by rw [HMA.out, ← more_getD]; rfl
                      obtain ⟨mx, my, rowM, im1, im2⟩ := hMc
                      obtain ⟨mxa, mxn, mxc, rfl⟩ := im1.shape3
                      obtain ⟨mya, myn, myc, rfl⟩ := im2.shape3
                      have m0 : wc.cell? ⟨bM, 0, none⟩ = some (.slice mxa mxn mxc) := by rw [cell_of_row _ _ 0 _ 34 (0, 0) rowM]; rfl
                      have m1 : wc.cell? ⟨bM, 1, none⟩ = some (.slice mya myn myc) := by rw [cell_of_row _ _ 1 _ 34 (0, 0) rowM]; rfl
                      have hFq := fun q hq => (HI.out.fine q hq)
                      have hcl : (capsOf L id).1.length ≤ 17592186043904 ∧ (capsOf L id).2.length ≤ 17592186043904 := by
                        unfold capsOf
                        cases hg : get L id with
                        | none => exact ⟨Nat.zero_le _, Nat.zero_le _⟩
                        | some q => exact ⟨(HI.out.fine q (get_mem hg).1).lP, (HI.out.fine q (get_mem hg).1).lM⟩
                      have bA1 : Below wc.heap.size wc (wc.alloc (.cells #[.int .i64 rn] 3)) := (Below.refl _ _).alloc (Nat.le_refl _) _
                      have bA2 : Below wc.heap.size wc ((wc.alloc (.cells #[.int .i64 rn] 3)).alloc (.cells #[.int .i64 rn] 3)) := bA1.alloc bA1.size _
                      have is1 : IntsAt ((wc.alloc (.cells #[.int .i64 rn] 3)).alloc (.cells #[.int .i64 rn] 3)) (.slice (some ⟨wc.heap.size, 0, none⟩) 1 1) [rn] := (IntsAt.new wc 3 [rn] (by simp)).alloc _
                      have is2 : IntsAt ((wc.alloc (.cells #[.int .i64 rn] 3)).alloc (.cells #[.int .i64 rn] 3)) (.slice (some ⟨wc.heap.size + 1, 0, none⟩) 1 1) [rn] := by
                        have h := IntsAt.new (wc.alloc (.cells #[.int .i64 rn] 3)) 3 [rn] (by simp)
                        have hs : (wc.alloc (.cells #[.int .i64 rn] 3)).heap.size = wc.heap.size + 1 := by simp
                        rw [hs] at h
                        exact h
                      have KM := refmore_any _ _ _ _ (capsOf L id).1 (capsOf L id).2 [rn] [rn] _ (im1.below bA2 (Nat.le_refl _)) (im2.below bA2 (Nat.le_refl _)) is1 is2 hcl.1 hcl.2 (by simp) (by simp)
                      rw [show onlyIf (joinOk (capsOf L id).1 [rn] && joinOk (capsOf L id).2 [rn]) (joinL (capsOf L id).1 [rn]) = mA.1 by rw [e], show onlyIf (joinOk (capsOf L id).1 [rn] && joinOk (capsOf L id).2 [rn]) (joinL (capsOf L id).2 [rn]) = mA.2 by rw [e]] at KM
                      generalize (joinOk (capsOf L id).1 [rn] && joinOk (capsOf L id).2 [rn]) = okA at KM
                      have HKM := Lib.hid KM
                      have HROW := Lib.hid rowM
                      have HNC := Lib.hid hNc
                      have HBCc := Lib.hid hBc
                      have HA2 := Lib.hid bA2
                      clear KM rowM hNc hBc bA1 bA2 is1 is2 im1 im2 e hcl hFq
                      go_wp2_with (go_at_call 20; refine HKM.out.mono ?_; rintro e w9 ⟨x, y, rfl, ix, iy, b9⟩; obtain ⟨xa, xn, xc, rfl⟩ := ix.shape3; obtain ⟨ya, yn, yc, rfl⟩ := iy.shape3; have A9 := Lib.hid (HA2.out.trans (b9.mono HA2.out.size)); have rowM9 := ((A9.out.block _ (Array.getElem?_eq_some_iff.1 HROW.out).1).trans HROW.out); have AM := Lib.hid (AtT.start rowM9); have z0 : w9.cell? ⟨bM, 0, none⟩ = some (.slice mxa mxn mxc) := AM.out.cell 0; have y0 : w9.frozen? ⟨bM, 0, none⟩ = false := AM.out.frozen 0; have z1 : (w9.setCell ⟨bM, 0, none⟩ (.slice xa xn xc)).cell? ⟨bM, 1, none⟩ = some (.slice mya myn myc) := (AM.out.set 0 _).cell 1; have y1 : (w9.setCell ⟨bM, 0, none⟩ (.slice xa xn xc)).frozen? ⟨bM, 1, none⟩ = false := (AM.out.set 0 _).frozen 1; have IX := Lib.hid ix; have IY := Lib.hid iy; clear ix iy b9 rowM9)
                      go_meet
                      case rel =>
                        have AF : AtT 34 w9 ((w9.setCell ⟨bM, 0, none⟩ (.slice xa xn xc)).setCell ⟨bM, 1, none⟩ (.slice ya yn yc)) bM #[.slice xa xn xc, .slice ya yn yc] := (AM.out.set 0 _).set 1 _
                        exact ⟨rfl, rfl, (HNC.out.below A9.out).apart AF HNM.out HLM.out, BoxC.turn AF IX.out IY.out HLM.out, (HBCc.out.trans (A9.out.mono HBCc.out.size)).trans (AF.below.mono HMG.out)⟩
                  case rest =>
                    obtain ⟨rfl, rfl, hN2, hM2, hB2⟩ := hcut
                    generalize wc = wd at *
                    have HN2' := Lib.hid hN2
                    have HM2 := Lib.hid hM2
                    have HB2 := Lib.hid hB2
                    have RO9 := Lib.hid ((hB2.block _ (Array.getElem?_eq_some_iff.1 RO6.out).1).trans RO6.out)
                    obtain ⟨ox, oy, rowO, io1, io2⟩ := BO6.out.below hB2
                    obtain ⟨oxa, oxn, oxc, rfl⟩ := io1.shape3
                    obtain ⟨oya, oyn, oyc, rfl⟩ := io2.shape3
                    have hrow6 := (R6.out.below hB2).cell HJL.out
                    obtain ⟨g', c9, hv9, hgl9, cg9⟩ := hrow6
                    obtain ⟨rfl, rfl⟩ : g = g' ∧ cl = c9 := by simp at hv9; exact ⟨hv9.1, hv9.2.2⟩
                    rw [← HID.out] at cg9
                    have hrd9 := HRD.out.below (B6.out.trans (hB2.mono B6.out.size)) (Nat.le_refl _)
                    have hclO : (capsOf L who).1.length ≤ 17592186043904 ∧ (capsOf L who).2.length ≤ 17592186043904 := by
                      unfold capsOf
                      cases hg : get L who with
                      | none => exact ⟨Nat.zero_le _, Nat.zero_le _⟩
                      | some q => exact ⟨(HI.out.fine q (get_mem hg).1).lP, (HI.out.fine q (get_mem hg).1).lM⟩
                    have KW : Hid (∀ W', Below wd.heap.size wd W' → Calls Tryz.prog 21 #[.agg #[.slice a3 n3 c3, .slice a4 n4 c4], .agg #[.slice oxa oxn oxc, .slice oya oyn oyc]] W' fun e w' => e = .returned (.bool (subL o.P (capsOf L who).1 && subL o.M (capsOf L who).2)) ∧ Below W'.heap.size W' w') := fun W' k =>
                      refwithin_any _ _ _ _ o.P o.M (capsOf L who).1 (capsOf L who).2 W' (hrd9.iP.below k (Nat.le_refl _)) (hrd9.iM.below k (Nat.le_refl _)) (io1.below k (Nat.le_refl _)) (io2.below k (Nat.le_refl _)) hrd9.nP hrd9.nM hclO.1 hclO.2
                    have HRD9 := Lib.hid hrd9
                    have HRO := Lib.hid rowO
                    obtain ⟨wv, hwv⟩ : ∃ wv, wv = (subL o.P (capsOf L who).1 && subL o.M (capsOf L who).2) := ⟨_, rfl⟩
                    rw [← hwv] at KW
                    have HWV := Lib.hid hwv
                    obtain ⟨cB, hcB⟩ : ∃ cB : Bool, cB = (decide (id = tn ∧ K = 6) && wv) := ⟨_, rfl⟩
                    have HCB := Lib.hid hcB
                    have HCG9 := Lib.hid cg9
                    have HGL9 := Lib.hid hgl9
                    clear hN2 hM2 hB2 rowO io1 io2 hv9 hgl9 hrd9 hclO hwv cg9
                    go_upto_region 25 with (fail)
                    go_cut [16, 17, 140] (fun v16 v17 v wx => v16 = .pointer (some ⟨bN, 0, none⟩) ∧ v17 = .pointer (some ⟨bM, 0, none⟩) ∧ v = .bool cB ∧ Below wd.heap.size wd wx)
                    case first =>
                      have l1 : ∀ i : Lat wd, i.w.cell? ⟨g, j, none⟩ = some (.string id) := fun i => (i.h.cell (p := ⟨g, j, none⟩) HGL9.out).trans HCG9.out
                      have hob : ob < wd.heap.size := (Array.getElem?_eq_some_iff.1 RO9.out).1
                      have hbo : bo < wd.heap.size := (Array.getElem?_eq_some_iff.1 HRO.out).1
                      have l3 : ∀ i : Lat wd, i.w.cell? ⟨ob, 3, none⟩ = some (.string tn) := fun i => (i.h.cell (p := ⟨ob, 3, none⟩) hob).trans (by rw [cell_of_row _ _ 3 _ 36 (0, 0) RO9.out]; rfl)
                      have l0 : ∀ i : Lat wd, i.w.cell? ⟨ob, 0, none⟩ = some (.int .i64 K) := fun i => (i.h.cell (p := ⟨ob, 0, none⟩) hob).trans (by rw [cell_of_row _ _ 0 _ 36 (0, 0) RO9.out]; rfl)
                      have l6 : ∀ i : Lat wd, i.w.cell? ⟨ob, 6, none⟩ = some (.slice a3 n3 c3) := fun i => (i.h.cell (p := ⟨ob, 6, none⟩) hob).trans (by rw [cell_of_row _ _ 6 _ 36 (0, 0) RO9.out]; rfl)
                      have l7 : ∀ i : Lat wd, i.w.cell? ⟨ob, 7, none⟩ = some (.slice a4 n4 c4) := fun i => (i.h.cell (p := ⟨ob, 7, none⟩) hob).trans (by rw [cell_of_row _ _ 7 _ 36 (0, 0) RO9.out]; rfl)
                      have lo0 : ∀ i : Lat wd, i.w.cell? ⟨bo, 0, none⟩ = some (.slice oxa oxn oxc) := fun i => (i.h.cell (p := ⟨bo, 0, none⟩) hbo).trans (by rw [cell_of_row _ _ 0 _ 34 (0, 0) HRO.out]; rfl)
                      have lo1 : ∀ i : Lat wd, i.w.cell? ⟨bo, 1, none⟩ = some (.slice oya oyn oyc) := fun i => (i.h.cell (p := ⟨bo, 1, none⟩) hbo).trans (by rw [cell_of_row _ _ 1 _ 34 (0, 0) HRO.out]; rfl)
                      have d1 : (id.toList == tn.toList) = decide (id = tn) := str_eq _ _
                      clear hob hbo
                      by_cases e1 : id = tn
                      · have d1' : (id.toList == tn.toList) = true := by rw [d1]; simpa using e1
                        by_cases e2 : K = 6
                        · have d2 : (K == 6) = true := by simpa using e2
                          have hh : cB = wv := by rw [hcB]; simp [e1, e2]
                          clear hcB d1 e1 e2
                          subst hh
                          refine wp_region_lat (W := wd) (by kernel_rfl) (by kernel_rfl) (Below.refl _ _) ?_
                          iterate 18 (go_big_quiet_step (with_reducible exact Lat.call (KW.out _ (Lat.h _))))
                          refine wpQuiet_nil ?_
                          rintro _ ⟨i2, rfl⟩
                          have hi2 := i2.h
                          clear l0 l1 l3 l6 l7 lo0 lo1
                          go_wp2
                          go_meet
                          case rel => exact ⟨rfl, rfl, rfl, hi2⟩
                        · have d2 : (K == 6) = false := by simpa using e2
                          have hh : cB = false := by rw [hcB]; simp [e2]
                          clear hcB d1 e1 e2
                          subst hh
                          refine wp_region_lat (W := wd) (by kernel_rfl) (by kernel_rfl) (Below.refl _ _) ?_
                          iterate 18 (go_big_quiet_step (fail))
                          refine wpQuiet_nil ?_
                          rintro _ ⟨i2, rfl⟩
                          have hi2 := i2.h
                          clear l0 l1 l3 l6 l7 lo0 lo1
                          go_wp2
                          go_meet
                          case rel => exact ⟨rfl, rfl, rfl, hi2⟩
                      · have d1' : (id.toList == tn.toList) = false := by rw [d1]; simpa using e1
                        have hh : cB = false := by rw [hcB]; simp [e1]
                        clear hcB d1 e1
                        subst hh
                        refine wp_region_lat (W := wd) (by kernel_rfl) (by kernel_rfl) (Below.refl _ _) ?_
                        iterate 18 (go_big_quiet_step (fail))
                        refine wpQuiet_nil ?_
                        rintro _ ⟨i2, rfl⟩
                        have hi2 := i2.h
                        clear l0 l1 l3 l6 l7 lo0 lo1
                        go_wp2
                        go_meet
                        case rel => exact ⟨rfl, rfl, rfl, hi2⟩
                    case rest =>
                      obtain ⟨rfl, rfl, rfl, hbc⟩ := hcut
                      have HBC2 := Lib.hid hbc
                      clear hbc hcB
                      obtain ⟨mB, hmB⟩ : ∃ mB, mB = (if cB then (moreC mA o.P o.M).getD mA else mA) := ⟨_, rfl⟩
                      have HMB := Lib.hid hmB
                      have HLA : Hid (mA.1.length ≤ 17592186043904 ∧ mA.2.length ≤ 17592186043904) := by
                        show _ ∧ _
                        rw [HMA.out]
                        have h := capsOf_len HI.out.fine id
                        split
                        · exact more_len _ _ _ ⟨Nat.zero_le _, Nat.zero_le _⟩
                        · exact h
                      clear hmB
                      go_upto_if 140 with (fail)
                      go_cut [16, 17] (fun v16 v17 wx => v16 = .pointer (some ⟨bN, 0, none⟩) ∧ v17 = .pointer (some ⟨bM, 0, none⟩) ∧ BoxC wx bN (capsOf L' id) ∧ BoxC wx bM mB ∧ Below w6.heap.size w6 wx)
                      case first =>
                        have hNc := HN2'.out.below HBC2.out
                        have hMc := HM2.out.below HBC2.out
                        have hBc : Below w6.heap.size w6 wc := HB2.out.trans (HBC2.out.mono HB2.out.size)
                        cases cB
                        · have e : mB = mA := by rw [HMB.out]; rfl
                          rw [← e] at hMc
                          have H1' := Lib.hid hNc
                          have H2' := Lib.hid hMc
                          have H3' := Lib.hid hBc
                          clear hNc hMc hBc e
                          go_wp2
                          go_meet
                          case rel => exact ⟨rfl, rfl, H1'.out, H2'.out, H3'.out⟩
                        · have e : mB = (moreC mA o.P o.M).getD mA := by rw [HMB.out]; rfl
                          obtain ⟨mx, my, rowM, im1, im2⟩ := hMc
                          obtain ⟨mxa, mxn, mxc, rfl⟩ := im1.shape3
                          obtain ⟨mya, myn, myc, rfl⟩ := im2.shape3
                          have m0 : wc.cell? ⟨bM, 0, none⟩ = some (.slice mxa mxn mxc) := by rw [cell_of_row _ _ 0 _ 34 (0, 0) rowM]; rfl
                          have m1 : wc.cell? ⟨bM, 1, none⟩ = some (.slice mya myn myc) := by rw [cell_of_row _ _ 1 _ 34 (0, 0) rowM]; rfl
                          have ROc := Lib.hid ((hBc.block _ (Array.getElem?_eq_some_iff.1 RO6.out).1).trans RO6.out)
                          have p6 : wc.cell? ⟨ob, 6, none⟩ = some (.slice a3 n3 c3) := by rw [cell_of_row _ _ 6 _ 36 (0, 0) ROc.out]; rfl
                          have p7 : wc.cell? ⟨ob, 7, none⟩ = some (.slice a4 n4 c4) := by rw [cell_of_row _ _ 7 _ 36 (0, 0) ROc.out]; rfl
                          have hrdc := HRD9.out.below HBC2.out (Nat.le_refl _)
                          have KM := refmore_any _ _ _ _ mA.1 mA.2 o.P o.M wc im1 im2 hrdc.iP hrdc.iM HLA.out.1 HLA.out.2 hrdc.nP hrdc.nM
                          cases hok : (joinOk mA.1 o.P && joinOk mA.2 o.M)
                          · rw [hok] at KM
                            have e2 : mB = mA := by rw [e]; unfold moreC; rw [hok]; rfl
                            have HKM := Lib.hid KM
                            have HMC : Hid (BoxC wc bM mB) := by rw [e2]; exact ⟨_, _, rowM, im1, im2⟩
                            have HNC := Lib.hid hNc
                            have HBCc := Lib.hid hBc
                            clear KM rowM hNc hBc im1 im2 e e2 hrdc hok
                            go_wp2_with (go_at_call 20; refine HKM.out.mono ?_; rintro e w9 ⟨x, y, rfl, ix, iy, b9⟩; obtain ⟨xa, xn, xc, rfl⟩ := ix.shape3; obtain ⟨ya, yn, yc, rfl⟩ := iy.shape3; have A9 := Lib.hid (b9.alloc b9.size (.cells #[.slice xa xn xc, .slice ya yn yc] 34)); clear ix iy b9)
                            go_meet
                            case rel => exact ⟨rfl, rfl, HNC.out.below A9.out, HMC.out.below A9.out, HBCc.out.trans (A9.out.mono HBCc.out.size)⟩
                          · rw [hok] at KM
                            have e2 : mB = (joinL mA.1 o.P, joinL mA.2 o.M) := by rw [e]; unfold moreC; rw [hok]; rfl
                            have HKM := Lib.hid KM
                            have HROW := Lib.hid rowM
                            have HNC := Lib.hid hNc
                            have HBCc := Lib.hid hBc
                            have HE2 := Lib.hid e2
                            clear KM rowM hNc hBc im1 im2 e e2 hrdc hok
                            go_upto_region 27 with (go_at_call 20; refine HKM.out.mono ?_; rintro e w9 ⟨x, y, rfl, ix, iy, b9⟩; obtain ⟨xa, xn, xc, rfl⟩ := ix.shape3; obtain ⟨ya, yn, yc, rfl⟩ := iy.shape3)
                            obtain ⟨W10, hW10⟩ : ∃ W10, W10 = w9.alloc (.cells #[.slice xa xn xc, .slice ya yn yc] 34) := ⟨_, rfl⟩
                            obtain ⟨bS, hbS⟩ : ∃ bS, bS = w9.heap.size := ⟨_, rfl⟩
                            have a10 : Below w9.heap.size w9 W10 := by rw [hW10]; exact (Below.refl _ _).alloc (Nat.le_refl _) _
                            have rowS : W10.heap[bS]? = some (.cells #[.slice xa xn xc, .slice ya yn yc] 34 (0, 0)) := by rw [hW10, hbS]; exact heap_alloc_new w9 _
                            have A10 := Lib.hid (b9.trans (a10.mono b9.size))
                            have IX := Lib.hid (ix.below a10 (Nat.le_refl _))
                            have IY := Lib.hid (iy.below a10 (Nat.le_refl _))
                            rw [← hW10, ← hbS]
                            have s0 : W10.cell? ⟨bS, 0, none⟩ = some (.slice xa xn xc) := by rw [cell_of_row _ _ 0 _ 34 (0, 0) rowS]; rfl
                            have s1 : W10.cell? ⟨bS, 1, none⟩ = some (.slice ya yn yc) := by rw [cell_of_row _ _ 1 _ 34 (0, 0) rowS]; rfl
                            have rowM9 := ((A10.out.block _ (Array.getElem?_eq_some_iff.1 HROW.out).1).trans HROW.out)
                            have AM := Lib.hid (AtT.start rowM9)
                            have z0 : W10.cell? ⟨bM, 0, none⟩ = some (.slice mxa mxn mxc) := AM.out.cell 0
                            have y0 : W10.frozen? ⟨bM, 0, none⟩ = false := AM.out.frozen 0
                            have z1 : (W10.setCell ⟨bM, 0, none⟩ (.slice xa xn xc)).cell? ⟨bM, 1, none⟩ = some (.slice mya myn myc) := (AM.out.set 0 _).cell 1
                            have y1 : (W10.setCell ⟨bM, 0, none⟩ (.slice xa xn xc)).frozen? ⟨bM, 1, none⟩ = false := (AM.out.set 0 _).frozen 1
                            clear ix iy b9 rowM9 a10 rowS hW10 hbS m0 m1 p6 p7
                            go_wp2
                            go_meet
                            case rel =>
                              have AF : AtT 34 W10 ((W10.setCell ⟨bM, 0, none⟩ (.slice xa xn xc)).setCell ⟨bM, 1, none⟩ (.slice ya yn yc)) bM #[.slice xa xn xc, .slice ya yn yc] := (AM.out.set 0 _).set 1 _
                              exact ⟨rfl, rfl, (HNC.out.below A10.out).apart AF HNM.out HLM.out, by rw [HE2.out]; exact BoxC.turn AF IX.out IY.out HLM.out, (HBCc.out.trans (A10.out.mono HBCc.out.size)).trans (AF.below.mono HMG.out)⟩
                      case rest =>
                        obtain ⟨rfl, rfl, hN3, hM3, hB3⟩ := hcut
                        obtain ⟨nx, ny, rowN, in1, in2⟩ := hN3
                        obtain ⟨nxa, nxn, nxc, rfl⟩ := in1.shape3
                        obtain ⟨nya, nyn, nyc, rfl⟩ := in2.shape3
                        obtain ⟨mx, my, rowM, im1, im2⟩ := hM3
                        obtain ⟨mxa, mxn, mxc, rfl⟩ := im1.shape3
                        obtain ⟨mya, myn, myc, rfl⟩ := im2.shape3
                        have n0 : wc.cell? ⟨bN, 0, none⟩ = some (.slice nxa nxn nxc) := by rw [cell_of_row _ _ 0 _ 34 (0, 0) rowN]; rfl
                        have n1' : wc.cell? ⟨bN, 1, none⟩ = some (.slice nya nyn nyc) := by rw [cell_of_row _ _ 1 _ 34 (0, 0) rowN]; rfl
                        have m0 : wc.cell? ⟨bM, 0, none⟩ = some (.slice mxa mxn mxc) := by rw [cell_of_row _ _ 0 _ 34 (0, 0) rowM]; rfl
                        have m1 : wc.cell? ⟨bM, 1, none⟩ = some (.slice mya myn myc) := by rw [cell_of_row _ _ 1 _ 34 (0, 0) rowM]; rfl
                        have hmem : id ∈ ids := by rw [HID.out]; exact List.getElem_mem _
                        rw [HIDS.out] at hmem
                        obtain ⟨q, hq, hqid⟩ := List.mem_map.1 hmem
                        obtain ⟨hqL, hqx⟩ := List.mem_filter.1 hq
                        have hgq : get L id = some q := by rw [← hqid]; exact get_of_mem HI.out.uniq hqL
                        have hlaw := caps_law HI.out o (by rw [← HK.out]; exact fun e => HK7.out (.inl e)) hgq (by simpa using hqx)
                        rw [HACT.out] at hlaw
                        have eA : mayA o ⟨rn, rs, re⟩ id (capsOf L id) = mA := by
                          rw [HMA.out, HCA.out, HW.out, HK.out]
                          unfold mayA
                          by_cases c : id = o.who ∧ o.kind = 3 ∧ re = 0
                          · rw [if_pos c, if_pos (by simpa using c)]
                          · rw [if_neg c, if_neg (by simpa using c)]
                        have eB : mayB o id (capsOf L o.who) mA = mB := by
                          rw [HMB.out, HCB.out, HWV.out, HTO.out, HK.out, HW.out]
                          unfold mayB within
                          by_cases c : id = o.to ∧ o.kind = 6 ∧ (subL o.P (capsOf L o.who).1 && subL o.M (capsOf L o.who).2) = true
                          · rw [if_pos c, if_pos (by simp only [Bool.and_eq_true, decide_eq_true_eq]; exact ⟨⟨c.1, c.2.1⟩, by simpa using c.2.2⟩)]
                          · rw [if_neg c, if_neg (by simp only [Bool.and_eq_true, decide_eq_true_eq]; exact fun h => c ⟨h.1.1, h.1.2, by simpa using h.2⟩)]
                        simp only at hlaw
                        rw [eA, eB] at hlaw
                        unfold within at hlaw
                        have hlB : mB.1.length ≤ 17592186043904 ∧ mB.2.length ≤ 17592186043904 := by
                          rw [HMB.out]
                          split
                          · exact more_len _ _ _ HLA.out
                          · exact HLA.out
                        obtain ⟨th7, hinv7⟩ := G6.out.inv
                        have hlN := capsOf_len hinv7.fine id
                        have KF := refwithin_any _ _ _ _ (capsOf L' id).1 (capsOf L' id).2 mB.1 mB.2 wc in1 in2 im1 im2 hlN.1 hlN.2 hlB.1 hlB.2
                        rw [hlaw] at KF
                        have HKF := Lib.hid KF
                        have HB3 := Lib.hid hB3
                        clear KF hB3 hlaw eA eB hlB hlN hinv7 hgq hqx hqL hq hqid hmem rowN rowM in1 in2 im1 im2
                        go_wp2_with (go_at_call 21; refine HKF.out.mono ?_; rintro e w9 ⟨rfl, b9⟩)
                        go_roundw
                        case rel => exact ⟨j + 1, by go_num, by omega, HB3.out.trans (b9.mono HB3.out.size)⟩
                        case measure => simp [intOf]; omega
              · obtain rfl : j = k := by omega
                have ROJ := Lib.hid ((HBJ.out.block _ (Array.getElem?_eq_some_iff.1 RO6.out).1).trans RO6.out)
                have RTJ := Lib.hid ((HBJ.out.block _ (Array.getElem?_eq_some_iff.1 RT6.out).1).trans RT6.out)
                have TJ := Lib.hid (T6.out.below HBJ.out)
                obtain ⟨ox, oy, rowO, io1, io2⟩ := BO6.out.below HBJ.out
                obtain ⟨oxa, oxn, oxc, rfl⟩ := io1.shape3
                obtain ⟨oya, oyn, oyc, rfl⟩ := io2.shape3
                have BJ := Lib.hid (B6.out.trans (HBJ.out.mono B6.out.size))
                have HRO := Lib.hid rowO
                have IO1 := Lib.hid io1
                have IO2 := Lib.hid io2
                clear rowO io1 io2 hj
                go_upto_region 31 with (fail)
                go_cut [168] (fun v wx => v = .bool false ∧ Below wr.heap.size wr wx)
                case first =>
                  have o0 : wr.cell? ⟨ob, 0, none⟩ = some (.int .i64 K) := by rw [cell_of_row _ _ 0 _ 36 (0, 0) ROJ.out]; rfl
                  by_cases e1 : K = 0
                  · have d1 : (K == 0) = true := by simpa using e1
                    by_cases e2 : re = 0
                    · have d2 : (re == 0) = true := by simpa using e2
                      have hk0 : o.kind = 0 := by rw [← HK.out]; exact e1
                      have he0 : (act o L).1.e = 0 := by rw [HACT.out]; exact e2
                      have hfork := caps_fork HI.out o hk0 he0
                      have hnm := fork_name HI.out o hk0 he0
                      rw [HACT.out] at hfork hnm
                      simp only at hfork hnm
                      rw [← HW.out] at hfork
                      obtain ⟨th7, hinv7⟩ := G6.out.inv
                      have hlO := capsOf_len HI.out.fine who
                      have KC2 : Hid (∀ W', Below wr.heap.size wr W' → Calls Tryz.prog 19 #[.string rs, .pointer (some ⟨tb, 0, none⟩)] W' fun e w' => ∃ x y, e = .returned (.agg #[x, y]) ∧ IntsAt w' x (capsOf L who).1 ∧ IntsAt w' y (capsOf L who).2 ∧ Below W'.heap.size W' w') := fun W' k => by
                        have hr := (k.block _ (Array.getElem?_eq_some_iff.1 RTJ.out).1).trans RTJ.out
                        have h := capsf_any w.heap.size T M bl6 L' rs W' (TJ.out.below k) hinv7.fine (by unfold maxLen; omega) tb (by rw [cell_of_row _ _ 0 _ 24 (0, 0) hr]; rfl) (Array.getElem?_eq_some_iff.1 hr).1
                        rw [hfork] at h
                        exact h
                      have KS : Hid (∀ W' x y, Below wr.heap.size wr W' → IntsAt W' x (capsOf L who).1 → IntsAt W' y (capsOf L who).2 → Calls Tryz.prog 22 #[.agg #[x, y], .agg #[.slice oxa oxn oxc, .slice oya oyn oyc]] W' fun e w' => e = .returned (.bool true) ∧ Below W'.heap.size W' w') := fun W' x y k i1 i2 => by
                        have h := samecaps_any x y _ _ (capsOf L who).1 (capsOf L who).2 (capsOf L who).1 (capsOf L who).2 W' i1 i2 (IO1.out.below k (Nat.le_refl _)) (IO2.out.below k (Nat.le_refl _)) hlO.1 hlO.2 hlO.1 hlO.2
                        simpa using h
                      have hob : ob < wr.heap.size := (Array.getElem?_eq_some_iff.1 ROJ.out).1
                      have hbo : bo < wr.heap.size := (Array.getElem?_eq_some_iff.1 HRO.out).1
                      have b0' : wr.cell? ⟨bo, 0, none⟩ = some (.slice oxa oxn oxc) := by rw [cell_of_row _ _ 0 _ 34 (0, 0) HRO.out]; rfl
                      have b1' : wr.cell? ⟨bo, 1, none⟩ = some (.slice oya oyn oyc) := by rw [cell_of_row _ _ 1 _ 34 (0, 0) HRO.out]; rfl
                      have o0d : wr.drew.cell? ⟨ob, 0, none⟩ = some (.int .i64 K) := o0
                      have b0d : wr.drew.cell? ⟨bo, 0, none⟩ = some (.slice oxa oxn oxc) := b0'
                      have b1d : wr.drew.cell? ⟨bo, 1, none⟩ = some (.slice oya oyn oyc) := b1'
                      have HD : Hid (Below wr.heap.size wr wr.drew) := (Below.refl _ _).drew
                      have HS : Hid (∀ w', Below wr.heap.size wr w' → Below wr.heap.size wr w' ∧ w'.cell? ⟨ob, 0, none⟩ = some (.int .i64 K) ∧ w'.cell? ⟨bo, 0, none⟩ = some (.slice oxa oxn oxc) ∧ w'.cell? ⟨bo, 1, none⟩ = some (.slice oya oyn oyc)) := fun w' q =>
                        ⟨q, (q.cell (p := ⟨ob, 0, none⟩) hob).trans o0, (q.cell (p := ⟨bo, 0, none⟩) hbo).trans b0', (q.cell (p := ⟨bo, 1, none⟩) hbo).trans b1'⟩
                      clear hk0 he0 hfork hnm hinv7 hlO hob hbo e1 e2
                      go_region_held3 (fun w' => Below wr.heap.size wr w' ∧ w'.cell? ⟨ob, 0, none⟩ = some (.int .i64 K) ∧ w'.cell? ⟨bo, 0, none⟩ = some (.slice oxa oxn oxc) ∧ w'.cell? ⟨bo, 1, none⟩ = some (.slice oya oyn oyc)) (first | exact HS.out _ HD.out | exact HS.out _ S4.out | exact HS.out _ S3.out | go_keep) (first
                        | (go_at_call 19; refine (KC2.out _ (by first | exact HD.out | exact Below.refl _ _)).mono ?_; rintro e w3 ⟨x, y, rfl, ix, iy, b3⟩; obtain ⟨xa, xn, xc, rfl⟩ := ix.shape3; obtain ⟨ya, yn, yc, rfl⟩ := iy.shape3; have S3 : Hid (Below wr.heap.size wr w3) := (by first | exact HD.out.trans (b3.mono HD.out.size) | exact b3); obtain ⟨_, _, bx0, bx1⟩ := HS.out w3 S3.out)
                        | (go_at_call 22; refine (KS.out _ _ _ S3.out ix iy).mono ?_; rintro e w4 ⟨rfl, b4⟩; have S4 : Hid (Below wr.heap.size wr w4) := S3.out.trans (b4.mono S3.out.size)))
                      all_goals
                        go_wp2
                        go_meet
                        case rel => exact ⟨rfl, S4.out⟩
                    · have d2 : (re == 0) = false := by simpa using e2
                      go_quiet (fail)
                      go_wp2
                      go_meet
                      case rel => exact ⟨rfl, below_drawn (Below.refl _ _) _⟩
                  · have d1 : (K == 0) = false := by simpa using e1
                    go_quiet (fail)
                    go_wp2
                    go_meet
                    case rel => exact ⟨rfl, below_drawn (Below.refl _ _) _⟩
                case rest =>
                  obtain ⟨rfl, hbc⟩ := hcut
                  have HX1 := Lib.hid (TJ.out.below hbc)
                  have HX2 := Lib.hid (BJ.out.trans (hbc.mono BJ.out.size))
                  have HX3 := Lib.hid ((hbc.block _ (Array.getElem?_eq_some_iff.1 RTJ.out).1).trans RTJ.out)
                  clear hbc
                  go_wp2
                  go_roundw
                  case rel => exact ⟨i + 1, L', bl6, by go_num, by omega, G6.out, HX1.out, HX2.out, HX3.out⟩
                  case measure => simp [intOf]; omega
    · have KA := Lib.hid (awake_any wr)
      have HBr := Lib.hid hBr
      clear hG hTr hBr hRr HT0 HB0 HR0
      by_cases hin : i < n
      · have h50 : ¬ i < 50 := fun h => hi ⟨hin, h⟩
        have d50 : decide ((i : Int) < 50) = false := by simp; omega
        clear hi
        go_wp2_with (go_at_call 12; refine KA.out.mono ?_; rintro e w9 ⟨rfl, b9⟩)
        go_ret
        exact ⟨rfl, HBr.out.trans (b9.mono HBr.out.size)⟩
      · obtain rfl : i = n := by omega
        clear hi hin
        go_wp2_with (go_at_call 12; refine KA.out.mono ?_; rintro e w9 ⟨rfl, b9⟩)
        go_ret
        exact ⟨rfl, HBr.out.trans (b9.mono HBr.out.size)⟩
end Go.Proofs.YtmphnoabkmoafaaGreatDoor
