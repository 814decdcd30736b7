/- The walk of ProcNames. -/
import Derived.Test.YtmphnoabkmoafaaDoorNamesL
import Derived.Test.YtmphnoabkmoafaaDoorOwnThree
import Derived.Test.YtmphnoabkmoafaaDoorDigits
import Derived.Test.YtmphnoabkmoafaaDoorBitsL
import Derived.Test.YtmphnoabkmoafaaDoorLaidT
import Derived.Test.YtmphnoabkmoafaaDoorRefHas
namespace Go.Proofs.YtmphnoabkmoafaaDoor
open Go.RowKit Go.Maps
set_option linter.unusedVariables false
theorem forkErr_ok' {L : List PR} {id : ByteArray} {sh : Int} (h : forkErr L id sh = 0) : ∃ p, get L id = some p ∧ p.exited = false ∧ 0 ≤ sh ∧ sh < p.share ∧ p.forks < 9 ∧ id.size < 15 := by
  unfold forkErr at h
  split at h
  · cases h
  · rename_i p hg
    refine ⟨p, hg, ?_⟩
    split at h
    · cases h
    · rename_i hx
      split at h
      · cases h
      · split at h
        · cases h
        · exact ⟨by simpa using hx, by omega, by omega, by omega, by omega⟩
/-- Of one that lives, with a share that may be: it goes well, or there are too many. -/
theorem forkErr_many {L : List PR} {id : ByteArray} {p : PR} (hg : get L id = some p) (hx : p.exited = false) (h : forkErr L id 3 ≠ 0) : forkErr L id 3 = 65 := by
  unfold forkErr at *
  rw [hg] at *
  simp only [hx, Bool.false_eq_true, if_false] at *
  rw [if_neg (by omega)] at *
  split at h
  · rename_i h2; rw [if_pos h2]
  · exact absurd rfl h
section
variable {w w' : World} {B T M : Nat} {bl : ByteArray → Nat} {L : List PR} {ids : List ByteArray} {fk mk tg : List Int}
theorem both_set (hN : Names L ids fk mk tg) (hT : TabAt w B T M bl L) {g : Nat} {cs : Array Value} (hg : w.heap[g]? = some (.cells cs 3 (0, 0))) (j : Nat) (x : Int) :
    ∃ L', Names L' ids fk mk tg ∧ TabAt (w.setCell ⟨g, j, none⟩ (.int .i64 x)) B T M bl L' := by
  obtain ⟨f, hf, ht⟩ := hT.shake (Ints3.set w g j x) (fun q hq hne => heap_setCell_other w ⟨g, j, none⟩ q _ (by rintro rfl; exact hne _ hg))
  exact ⟨_, hN.shake hf, ht⟩
theorem both_grow (hN : Names L ids fk mk tg) (hT : TabAt w B T M bl L) {B' : Nat} {v : Value} {n : Nat} {xs : List Value} (o : w.ownsRow B' 3 1 v n xs) (gr : w.grownBy w' v.ownBlock) (k : Ints3 w w') :
    ∃ L', Names L' ids fk mk tg ∧ TabAt w' B T M bl L' := by
  obtain ⟨f, hf, ht⟩ := hT.shake k (own_other o gr)
  exact ⟨_, hN.shake hf, ht⟩
end
theorem rows4_start (w1 : World) (B : Nat) (hB : B ≤ w1.heap.size) :
    Rows4 (((w1.alloc (.cells #[.string oneB] 9)).alloc (.cells #[.int .i64 0] 3)).alloc (.cells #[.int .i64 0] 3)) B (.slice (some ⟨w1.heap.size, 0, none⟩) 1 1) (.slice (some ⟨w1.heap.size + 1, 0, none⟩) 1 1) (.slice (some ⟨w1.heap.size + 2, 0, none⟩) 1 1) (.slice none 0 0) [oneB] [0] [0] [] := by
  have h0 : (((w1.alloc (.cells #[.string oneB] 9)).alloc (.cells #[.int .i64 0] 3)).alloc (.cells #[.int .i64 0] 3)).heap[w1.heap.size]? = some (.cells #[.string oneB] 9 (0, 0)) := by
    rw [heap_alloc_old _ _ (by simp; omega), heap_alloc_old _ _ (by simp)]
    exact heap_alloc_new w1 _
  have h1 : (((w1.alloc (.cells #[.string oneB] 9)).alloc (.cells #[.int .i64 0] 3)).alloc (.cells #[.int .i64 0] 3)).heap[w1.heap.size + 1]? = some (.cells #[.int .i64 0] 3 (0, 0)) := by
    rw [heap_alloc_old _ _ (by simp)]
    have := heap_alloc_new (w1.alloc (.cells #[.string oneB] 9)) (.cells #[.int .i64 0] 3)
    simpa using this
  have h2 : (((w1.alloc (.cells #[.string oneB] 9)).alloc (.cells #[.int .i64 0] 3)).alloc (.cells #[.int .i64 0] 3)).heap[w1.heap.size + 2]? = some (.cells #[.int .i64 0] 3 (0, 0)) := by
    have := heap_alloc_new ((w1.alloc (.cells #[.string oneB] 9)).alloc (.cells #[.int .i64 0] 3)) (.cells #[.int .i64 0] 3)
    simpa using this
  exact ⟨⟨rfl, .inr ⟨_, 1, _, rfl, hB, h0, by decide, by decide, rfl, rfl⟩⟩, ⟨rfl, .inr ⟨_, 1, _, rfl, by omega, h1, by decide, by decide, rfl, rfl⟩⟩, ⟨rfl, .inr ⟨_, 1, _, rfl, by omega, h2, by decide, by decide, rfl, rfl⟩⟩, World.ownsRow_nil _ _ _ _, (fun k e e2 => by simp [Value.ownBlock] at e e2; omega), (fun k e e2 => by cases e2), (fun k e e2 => by cases e2)⟩
theorem numTo_16 {s : ByteArray} (hs : ∀ (i : Nat) (h : i < s.size), (s[i]'h).toNat = 46 ∨ 49 ≤ (s[i]'h).toNat ∧ (s[i]'h).toNat ≤ 57) (k : Nat) (hk : k ≤ 16) : numTo s k < 10000000000000000 := by
  have h1 := numTo_lt s hs k
  have h2 : 10 ^ k ≤ 10 ^ 16 := Nat.pow_le_pow_right (by omega) hk
  have h3 : (10 : Nat) ^ 16 = 10000000000000000 := by decide
  omega
theorem run_index_at (w : World) (s : ByteArray) (k : Nat) (hk : k < s.size) {c : UInt8} (hc : s[k]'hk = c) : (Instr.index 9 (.string s) (.int .i64 (k : Int))).run Tryd.prog w = .ok (.int .u8 (c.toNat : Nat)) w := by
  have e : s[k]? = some c := by rw [getElem?_pos s k hk, hc]
  simp [Instr.index, run_underlying und9s, asIntOf, e]
theorem tagOk_lt {p : PR} (h : tagOk p = true) : p.tags < 9 := by
  unfold tagOk at h
  simp only [Bool.and_eq_true, decide_eq_true_eq] at h
  exact h.1.1
set_option maxRecDepth 100000 in
set_option maxHeartbeats 20000000 in
theorem names_any (v : Value) (n : Nat) (F : Nat → Int) (w : World) (hb : IntsIn w v n F) :
    Calls Tryd.prog 3 #[v] w fun e w' => e = .returned (.bool true) ∧ Below w.heap.size w w' := by
  obtain ⟨ao, cap, rfl, hn, hcells⟩ := hb
  have HC := Lib.hid hcells
  clear hcells
  have X0 := Lib.hid (new_ok 60 w (by omega) (by omega))
  unfold ptr at X0
  go_enter Tryd.func3, Tryd.ntmps3
  go_wp2_with (go_at_call 10; refine X0.out.mono ?_; rintro e w1 ⟨T, M, bl, rfl, t1, b1⟩)
  obtain ⟨W0, hW0⟩ : ∃ W0, W0 = ((w1.alloc (.cells #[.string oneB] 9)).alloc (.cells #[.int .i64 0] 3)).alloc (.cells #[.int .i64 0] 3) := ⟨_, rfl⟩
  have hal : Below w1.heap.size w1 W0 := by rw [hW0]; exact (((Below.refl _ _).alloc (Nat.le_refl _) _).alloc (by simp) _).alloc (by simp; omega) _
  have R0 : Hid (Rows4 W0 w.heap.size (.slice (some ⟨w1.heap.size, 0, none⟩) 1 1) (.slice (some ⟨w1.heap.size + 1, 0, none⟩) 1 1) (.slice (some ⟨w1.heap.size + 2, 0, none⟩) 1 1) (.slice none 0 0) [oneB] [0] [0] []) := by show Rows4 _ _ _ _ _ _ _ _ _ _; rw [hW0]; exact rows4_start w1 _ b1.size
  have T0 := Lib.hid (t1.below hal)
  have B0 := Lib.hid (b1.trans (hal.mono b1.size))
  clear t1 b1 hal
  rw [hW0] at R0 T0 B0
  clear hW0
  go_loopw [5, 6, 7, 8, 9, 10, 11, 12, 13, 14, 15, 16] (fun v5 v6 v7 v8 v9 _ _ _ _ _ _ _ wr => ∃ (i : Nat) (ids : List ByteArray) (fk mk tg : List Int) (L : List PR) (bl : ByteArray → Nat), v9 = .int .i64 i ∧ i ≤ n ∧ 0 < ids.length ∧ tg.length ≤ i ∧ Names L ids fk mk tg ∧ Rows4 wr w.heap.size v5 v6 v7 v8 ids fk mk tg ∧ TabAt wr w.heap.size T M bl L ∧ Below w.heap.size w wr) (fun _ _ _ _ v9 _ _ _ _ _ _ _ _ => n - (intOf v9).toNat)
  case atStart => exact ⟨0, [oneB], [0], [0], [], [firstP 60], bl, rfl, by omega, by decide, by simp, names_first, R0.out, T0.out, B0.out⟩
  case round =>
    obtain ⟨i, ids, fk, mk, tg, L, bl3, rfl, hi1, hid0, htl, hN, hR, hT, hB⟩ := hrel
    clear R0 T0 B0
    by_cases hi : i < n ∧ i < 40
    · obtain ⟨hi, hi40⟩ := hi
      obtain ⟨b, off, rfl, hbl, hc⟩ := HC.out i hi
      have q0 : wr.cell? ⟨b, off + i, none⟩ = some (.int .i64 (F i)) := (hB.cell (p := ⟨b, off + i, none⟩) hbl).trans hc
      obtain ⟨fi, hfi⟩ : ∃ x, x = F i := ⟨_, rfl⟩
      rw [← hfi] at q0
      obtain ⟨x, hx⟩ : ∃ x, bits BinOp.and IntKind.i64 fi 255 = x := ⟨_, rfl⟩
      have hx01 : 0 ≤ x ∧ x ≤ 255 := by rw [← hx]; exact and_small fi 255 (by omega)
      obtain ⟨hx0, hx3⟩ := hx01
      obtain ⟨y, hy⟩ : ∃ y, bits BinOp.and IntKind.i64 fi 256 = y := ⟨_, rfl⟩
      obtain ⟨lk, hlk⟩ : ∃ lk, lk = ids.length := ⟨_, rfl⟩
      have hlk2 : lk ≤ 1000 := by have h1 := hN.inv.perm.length_eq; have h2 := hN.inv.len; rw [List.length_map] at h1; omega
      obtain ⟨k, hk, hkl⟩ : ∃ k : Nat, x.tmod (lk : Int) = (k : Int) ∧ k < lk := by
        have h1 := Int.tmod_lt_of_pos x (show (0 : Int) < lk by omega)
        have h2 := Int.tmod_nonneg (lk : Int) hx0
        exact ⟨(x.tmod (lk : Int)).toNat, by omega, by omega⟩
      have hkl' : k < ids.length := by omega
      obtain ⟨p, hpL, hpid, hpf, hpt, hpx, hpF, hpg, hpn⟩ := hN.look hkl'
      obtain ⟨who, hwho⟩ : ∃ s, s = ids[k] := ⟨_, rfl⟩
      rw [← hwho] at hpid hpg hpn
      obtain ⟨g5, cap5, cur5, hv5, hB5, hrow5, hcap5, hcur5⟩ := hR.oI.row hid0
      obtain ⟨g6, cap6, hv6, hB6, hl6, hcap6, hcm6, hc6⟩ := owns_cells hR.oF (by rw [hN.lenF]; exact hid0)
      obtain ⟨g7, cap7, hv7, hB7, hl7, hcap7, hcm7, hc7⟩ := owns_cells hR.oM (by rw [hN.lenM]; exact hid0)
      obtain ⟨ao8, cap8, hv8, _, _⟩ := owns_shape hR.oT
      have zc : wr.cell? ⟨g5, k, none⟩ = some (.string who) := by rw [cell_of_row wr g5 k _ 9 (0, 0) hrow5, hwho]; exact hcur5 k hkl'
      have fc := hc6 k (by rw [hN.lenF]; exact hkl')
      have mc := hc7 k (by rw [hN.lenM]; exact hkl')
      rw [← hpf] at fc
      rw [← hpt] at mc
      have hw15 : who.size ≤ 15 := by have := hpF.id1; rw [hpid] at this; exact this
      have hwm : who.size ≤ maxLen := by unfold maxLen; omega
      have hlF := hN.lenF
      have hlM := hN.lenM
      rw [← hlk] at hv5 hlF hlM
      rw [hlF] at hv6
      rw [hlM] at hv7
      obtain ⟨lt, hlt⟩ : ∃ lt, lt = tg.length := ⟨_, rfl⟩
      rw [← hlt] at hv8 htl
      subst hv5 hv6 hv7 hv8
      have HR := Lib.hid hR
      have HN := Lib.hid hN
      have HT := Lib.hid hT
      have HB := Lib.hid hB
      have HF := Lib.hid hpF
      have HPL := Lib.hid hpL
      have HPG := Lib.hid hpg
      have HPN := Lib.hid hpn
      have HPI := Lib.hid hpid
      have HPX := Lib.hid hpx
      have HW := Lib.hid hwho
      have HLK := Lib.hid hlk
      have HLT := Lib.hid hlt
      have HLF := Lib.hid hlF
      have HLM := Lib.hid hlM
      have HPT := Lib.hid hpt
      have HPF := Lib.hid hpf
      obtain ⟨pt, hptE⟩ : ∃ x, x = p.tags := ⟨_, rfl⟩
      obtain ⟨pf, hpfE⟩ : ∃ x, x = p.forks := ⟨_, rfl⟩
      rw [← hptE] at mc
      rw [← hpfE] at fc
      have hpt0 : 0 ≤ pt := by rw [hptE]; exact hpF.t0
      have hpt9 : pt ≤ 9 := by rw [hptE]; exact hpF.t1
      have hpf0 : 0 ≤ pf := by rw [hpfE]; exact hpF.f0
      have hpf9 : pf ≤ 9 := by rw [hpfE]; exact hpF.f1
      have HPTE := Lib.hid hptE
      have HPFE := Lib.hid hpfE
      clear hR hN hT hB hpF hpL hpg hpn hpid hpx hwho hlk hlt hlF hlM hpt hpf hptE hpfE hfi hc hrow5 hcur5 hc6 hc7 hcap5 hcap6 hcap7 hcm6 hcm7
      by_cases hy6 : y = 256
      · have dy : (y == 256) = true := by simp [hy6]
        clear hy6
        have hlen0 : lk ≠ 0 := by omega
        by_cases htk : tagOk p = true
        · have ht9 := tagOk_lt htk
          have htnE : tagN p = 10 * (numTo who who.size : Nat) + pt + 1 := by unfold tagN; rw [HPI.out, ← HPTE.out]
          have hNs := numTo_small HF.out
          rw [HPI.out] at hNs
          have K1 : Hid (Calls Tryd.prog 11 #[.pointer (some ⟨T, 0, none⟩), .string who] wr fun e w' => e = .returned (.tuple #[.int .i64 (tagN p), .int .i64 0]) ∧ TabAt w' w.heap.size T M bl3 (updP (tagP p) L) ∧ Bel w.heap.size wr w') := tag_ok w.heap.size T M bl3 L who wr p HT.out HF.out HPG.out HPX.out htk
          have N1 : Hid (Names (updP (tagP p) L) ids fk (mk.set k (pt + 1)) (tg ++ [tagN p])) := by show Names _ _ _ _ _; rw [HPTE.out]; exact HN.out.tag hkl' HPL.out (by rw [HPI.out, HW.out]) ht9
          have NEW : Hid (decide (tagN p ∈ tg) = false) := decide_eq_false (HN.out.new HPL.out ht9)
          obtain ⟨L1, hL1⟩ : ∃ L1, L1 = updP (tagP p) L := ⟨_, rfl⟩
          rw [← hL1] at K1 N1
          rw [htnE] at K1 N1 NEW
          obtain ⟨N, hNE⟩ : ∃ N, N = numTo who who.size := ⟨_, rfl⟩
          rw [← hNE] at K1 N1 NEW hNs
          have HNE := Lib.hid hNE
          have HT9 : Hid (pt < 9) := by show pt < 9; rw [HPTE.out]; exact ht9
          clear hL1 htnE htk ht9 hNE
          go_wp2_with (go_at_call 11; refine K1.out.mono ?_; rintro e w3 ⟨rfl, t3, b3⟩)
          have R3 := Lib.hid (HR.out.still b3.still)
          have T3 := Lib.hid t3
          have B3 := Lib.hid (HB.out.trans b3.toBelow)
          have zc3 : w3.cell? ⟨g5, k, none⟩ = some (.string who) := by rw [own_scell R3.out.oI hkl', HW.out]
          have mc3 : w3.cell? ⟨g7, k, none⟩ = some (.int .i64 pt) := by rw [own_cell R3.out.oM (by rw [HLM.out]; exact hkl), ← HPT.out, ← HPTE.out]
          have mf3 : w3.frozen? ⟨g7, k, none⟩ = false := World.ownsRow.frozenAt (n := lk) (by have := R3.out.oM; rw [HLM.out] at this; exact this) k
          clear t3 b3 zc mc fc K1 q0
          go_loop [13, 14] (fun vw vj => ∃ m : Nat, 2 * m ≤ who.size + 1 ∧ vw = .int .i64 (numTo who (2 * m) : Nat) ∧ vj = .int .i64 (2 * m : Nat)) (fun _ vj => who.size + 2 - (intOf vj).toNat)
          case atStart => exact ⟨0, by omega, rfl, rfl⟩
          case round =>
            obtain ⟨m, hm, rfl, rfl⟩ := hrel
            have hle := numTo_16 (by have := HF.out.idc; rw [HPI.out] at this; exact this) (2 * m) (by omega)
            by_cases hlt : 2 * m < who.size
            · obtain ⟨c, hc, hc1, hc2, hst⟩ := numTo_step HPN.out m hlt
              have HIX : Hid ((Instr.index 9 (.string who) (.int .i64 ((2 * m : Nat) : Int))).run Tryd.prog w3 = .ok (.int .u8 (c.toNat : Nat)) w3) := run_index_at w3 who (2 * m) hlt hc
              obtain ⟨cc, hcc⟩ : ∃ cc : Nat, cc = c.toNat := ⟨_, rfl⟩
              rw [← hcc] at hc1 hc2 hst HIX
              obtain ⟨A, hA⟩ : ∃ A, A = numTo who (2 * m) := ⟨_, rfl⟩
              rw [← hA] at hst hle ⊢
              have HST := Lib.hid hst
              have HLT2 := Lib.hid hlt
              obtain ⟨m2, hm2⟩ : ∃ m2, m2 = 2 * m := ⟨_, rfl⟩
              rw [← hm2] at HIX hlt hm ⊢
              have HIX' := HIX.out
              have HM2 := Lib.hid hm2
              clear hc hst hcc hA hm2
              go_wp2
              refine ⟨⟨m + 1, by have := HM2.out; omega, ?_, ?_⟩, ?_⟩
              · rw [HST.out]; congr 1; omega
              · congr 1; have := HM2.out; omega
              · simp [intOf]; omega
            · have hEq : numTo who (2 * m) = N := by rw [HNE.out, numTo_all who (2 * m) (by omega), numTo_all who who.size (Nat.le_refl _)]
              obtain ⟨m2, hm2⟩ : ∃ m2, m2 = 2 * m := ⟨_, rfl⟩
              have hnl : ¬ ((m2 : Int) < who.size) := by omega
              rw [hEq]
              rw [← hm2]
              clear hm2 hEq hle hm hlt
              have d9 : decide (pt ≥ 9) = false := by have := HT9.out; simp; omega
              go_upto_region 26 with (go_at_call 12; refine (has_any (.slice ao8 lt cap8) tg _ w3 R3.out.ints (by have := HLT.out; omega)).mono ?_; rintro e w4 ⟨rfl, hw4⟩; rw [hw4, NEW.out])
              obtain ⟨W4, hW4⟩ : ∃ W4, W4 = w3.setCell ⟨g7, k, none⟩ (.int .i64 (pt + 1)) := ⟨_, rfl⟩
              rw [← hW4]
              obtain ⟨_, _, cs7, hcs7⟩ := ownsRow_ty R3.out.oM (k := g7) rfl
              obtain ⟨L4, n4, t4⟩ := both_set N1.out T3.out hcs7 k (pt + 1)
              have r4 := R3.out.setM HLM.out k (pt + 1)
              rw [← hW4] at t4 r4
              have B4 : Hid (Below w.heap.size w W4) := by show Below _ _ _; rw [hW4]; exact B3.out.setCell (p := ⟨g7, k, none⟩) hB7 _
              have A5 : Hid (Below W4.heap.size W4 (W4.alloc (.cells #[Value.int .i64 (10 * (N : Int) + pt + 1)] 3))) := (Below.refl _ _).alloc (Nat.le_refl _) _
              have R5 := Lib.hid (r4.still (Still.of_below A5.out))
              have T5 := Lib.hid (t4.below A5.out)
              have N5 := Lib.hid n4
              have B5 := Lib.hid (B4.out.trans (A5.out.mono B4.out.size))
              have hlt6 : lt < 1000000 := by omega
              clear hW4 hcs7 n4 t4 r4 zc3 mc3 mf3 N1
              go_wp2_with ((with_reducible show wpList _ _ _ (⟨some 127, _, _, _, _, _⟩ :: _) _ _); go_must (refine wpList_append_i3 _ rfl _ _ rfl w.heap.size (.slice ao8 lt cap8) lt tg rfl (by have := R5.out.oT; rw [← HLT.out] at this; exact this) ⟨W4.heap.size, 0, none⟩ 1 (10 * (N : Int) + pt + 1) rfl (by rw [cell_of_row _ _ 0 _ 3 (0, 0) (heap_alloc_new _ _)]; rfl) hlt6 (by have := B4.out.size; simp; omega) (W4.heap.size + 1) (by simp) ?_; intro g8 cap9 w6 o6 gr6 hat6 i6; simp only [Act.put, List.setIfInBounds_toArray, List.set_cons_zero, List.set_cons_succ]))
              obtain ⟨L6, n6, t6⟩ := both_grow N5.out T5.out R5.out.oT gr6 i6
              have r6 := R5.out.putT HLT.out.symm o6 gr6 (by simpa using hat6)
              have b6 := B5.out.trans (own_below R5.out.oT gr6 (by have := B4.out.size; simp; omega))
              go_roundw
              case rel => exact ⟨i + 1, ids, fk, mk.set k (pt + 1), tg ++ [10 * (N : Int) + pt + 1], L6, bl3, by push_cast; rfl, by omega, hid0, by rw [List.length_append, ← HLT.out]; simp; omega, n6, r6, t6, b6⟩
              case measure => simp [intOf]; omega
        · have htk0 : tagOk p = false := by simpa using htk
          have K1 : Hid (Calls Tryd.prog 11 #[.pointer (some ⟨T, 0, none⟩), .string who] wr fun e w' => e = .returned (.tuple #[.int .i64 0, .int .i64 65]) ∧ TabAt w' w.heap.size T M bl3 L ∧ Bel w.heap.size wr w') := tag_many w.heap.size T M bl3 L who wr p HT.out HF.out HPG.out HPX.out htk0
          obtain ⟨N, hNE⟩ : ∃ N, N = numTo who who.size := ⟨_, rfl⟩
          have hNs := numTo_small HF.out
          rw [HPI.out, ← hNE] at hNs
          have HNE := Lib.hid hNE
          clear hNE htk htk0
          go_wp2_with (go_at_call 11; refine K1.out.mono ?_; rintro e w3 ⟨rfl, t3, b3⟩)
          have R3 := Lib.hid (HR.out.still b3.still)
          have T3 := Lib.hid t3
          have B3 := Lib.hid (HB.out.trans b3.toBelow)
          have zc3 : w3.cell? ⟨g5, k, none⟩ = some (.string who) := by rw [own_scell R3.out.oI hkl', HW.out]
          have mc3 : w3.cell? ⟨g7, k, none⟩ = some (.int .i64 pt) := by rw [own_cell R3.out.oM (by rw [HLM.out]; exact hkl), ← HPT.out, ← HPTE.out]
          clear t3 b3 zc mc fc K1 q0
          go_loop [13, 14] (fun vw vj => ∃ m : Nat, 2 * m ≤ who.size + 1 ∧ vw = .int .i64 (numTo who (2 * m) : Nat) ∧ vj = .int .i64 (2 * m : Nat)) (fun _ vj => who.size + 2 - (intOf vj).toNat)
          case atStart => exact ⟨0, by omega, rfl, rfl⟩
          case round =>
            obtain ⟨m, hm, rfl, rfl⟩ := hrel
            have hle := numTo_16 (by have := HF.out.idc; rw [HPI.out] at this; exact this) (2 * m) (by omega)
            by_cases hlt : 2 * m < who.size
            · obtain ⟨c, hc, hc1, hc2, hst⟩ := numTo_step HPN.out m hlt
              have HIX : Hid ((Instr.index 9 (.string who) (.int .i64 ((2 * m : Nat) : Int))).run Tryd.prog w3 = .ok (.int .u8 (c.toNat : Nat)) w3) := run_index_at w3 who (2 * m) hlt hc
              obtain ⟨cc, hcc⟩ : ∃ cc : Nat, cc = c.toNat := ⟨_, rfl⟩
              rw [← hcc] at hc1 hc2 hst HIX
              obtain ⟨A, hA⟩ : ∃ A, A = numTo who (2 * m) := ⟨_, rfl⟩
              rw [← hA] at hst hle ⊢
              have HST := Lib.hid hst
              have HLT2 := Lib.hid hlt
              obtain ⟨m2, hm2⟩ : ∃ m2, m2 = 2 * m := ⟨_, rfl⟩
              rw [← hm2] at HIX hlt hm ⊢
              have HIX' := HIX.out
              have HM2 := Lib.hid hm2
              clear hc hst hcc hA hm2
              go_wp2
              refine ⟨⟨m + 1, by have := HM2.out; omega, ?_, ?_⟩, ?_⟩
              · rw [HST.out]; congr 1; omega
              · congr 1; have := HM2.out; omega
              · simp [intOf]; omega
            · have hEq : numTo who (2 * m) = N := by rw [HNE.out, numTo_all who (2 * m) (by omega), numTo_all who who.size (Nat.le_refl _)]
              obtain ⟨m2, hm2⟩ : ∃ m2, m2 = 2 * m := ⟨_, rfl⟩
              have hnl : ¬ ((m2 : Int) < who.size) := by omega
              rw [hEq]
              rw [← hm2]
              clear hm2 hEq hle hm hlt
              have d9 : decide (pt ≥ 9) = true ∨ decide (pt ≥ 9) = false := by cases decide (pt ≥ 9) <;> simp
              rcases d9 with d9 | d9
              all_goals
                go_wp2
                go_roundw
                case rel => exact ⟨i + 1, ids, fk, mk, tg, L, bl3, by push_cast; rfl, by omega, hid0, by rw [← HLT.out]; omega, HN.out, by rw [← HLK.out] at *; exact R3.out, T3.out, B3.out⟩
                case measure => simp [intOf]; omega
      · have dy : (y == 256) = false := by simp [hy6]
        clear hy6
        have hlen0 : lk ≠ 0 := by omega
        have hLl : L.length < 1000000 := by have := HN.out.inv.len; omega
        by_cases hfe : forkErr L who 3 = 0
        · obtain ⟨p2, hg2, hx2, hs0, hs1, hf9, h15⟩ := forkErr_ok' hfe
          obtain rfl : p = p2 := by have := HPG.out; rw [hg2] at this; cases this; rfl
          have K1 : Hid (Calls Tryd.prog 13 #[.pointer (some ⟨T, 0, none⟩), .string who, .int .i64 3] wr fun e w' => ∃ bl', e = .returned (.tuple #[.string (childId who (p.forks + 1)), .int .i64 0]) ∧ TabAt w' w.heap.size T M bl' (putP (child p 3) (delP (childId who (p.forks + 1)) (updP (parentP p 3) L))) ∧ Bel w.heap.size wr w') := fork_ok w.heap.size T M bl3 L who 3 wr p HT.out HF.out HPG.out HPX.out (by omega) hs1 hf9 h15 hLl
          have n1 := HN.out.fork hkl' HPL.out (by rw [HPI.out, HW.out]) hs1 hf9 (by rw [HPI.out]; exact h15)
          rw [HPI.out] at n1
          obtain ⟨L1, hL1⟩ : ∃ L1, L1 = putP (child p 3) (delP (childId who (p.forks + 1)) (updP (parentP p 3) L)) := ⟨_, rfl⟩
          rw [← hL1] at K1 n1
          rw [← HPFE.out] at K1 n1 hf9
          have hds : (digs (pf + 1)).size = 1 := digs_size _ (by omega) (by omega)
          have DG := fun W => Lib.hid (digits_any (pf + 1) W (by omega) (by omega))
          unfold childId at K1 n1
          obtain ⟨D, hD⟩ : ∃ D, D = digs (pf + 1) := ⟨_, rfl⟩
          rw [← hD] at K1 n1 hds
          simp only [← hD] at DG
          have N1 := Lib.hid n1
          have HF9 := Lib.hid hf9
          clear hL1 n1 hD hg2 hx2 hs0 hs1 hfe
          go_upto_region 31 with (go_at_call 13; refine K1.out.mono ?_; rintro e w3 ⟨bl4, rfl, t3, b3⟩)
          have R3 := Lib.hid (HR.out.still b3.still)
          have B3 := Lib.hid (HB.out.trans b3.toBelow)
          obtain ⟨_, _, cs6, hcs6⟩ := ownsRow_ty R3.out.oF (k := g6) rfl
          have fc3 : w3.cell? ⟨g6, k, none⟩ = some (.int .i64 pf) := by rw [own_cell R3.out.oF (by rw [HLF.out]; exact hkl), ← HPF.out, ← HPFE.out]
          have ff3 : w3.frozen? ⟨g6, k, none⟩ = false := World.ownsRow.frozenAt (n := lk) (by have := R3.out.oF; rw [HLF.out] at this; exact this) k
          obtain ⟨L4, n4, t4⟩ := both_set N1.out t3 hcs6 k (pf + 1)
          have r4 := R3.out.setF HLF.out k (pf + 1)
          clear zc fc mc q0 b3 t3 K1 hcs6
          go_upto_region 32 with (fail)
          obtain ⟨W4, hW4⟩ : ∃ W4, W4 = w3.setCell ⟨g6, k, none⟩ (.int .i64 (pf + 1)) := ⟨_, rfl⟩
          rw [← hW4] at t4 r4
          rw [← hW4]
          have B4 : Hid (Below w.heap.size w W4) := by show Below _ _ _; rw [hW4]; exact B3.out.setCell (p := ⟨g6, k, none⟩) hB6 _
          have N4 := Lib.hid n4
          have T4 := Lib.hid t4
          have R4 := Lib.hid r4
          have hg5 := (ownsRow_ty R4.out.oI (k := g5) rfl).2.1
          have hg6 := (ownsRow_ty R4.out.oF (k := g6) rfl).2.1
          have zc4 : W4.cell? ⟨g5, k, none⟩ = some (.string who) := by rw [own_scell R4.out.oI hkl', HW.out]
          have fc4 : W4.cell? ⟨g6, k, none⟩ = some (.int .i64 (pf + 1)) := by rw [own_cell R4.out.oF (by rw [List.length_set, HLF.out]; exact hkl), getD_set, if_pos ⟨rfl, by rw [HLF.out]; exact hkl⟩]
          clear hW4 n4 t4 r4 fc3 ff3 R3 B3
          have y1 : ¬ (9223372036854775807 < who.size + 1) := by omega
          have y2 : ¬ (9223372036854775807 < who.size + 1 + D.size) := by omega
          go_region_with (go_at_call 14; refine (DG _).out.mono ?_; rintro e w5 ⟨rfl, b5⟩; have zc5 : w5.cell? ⟨g5, k, none⟩ = some (.string who) := (b5.cell (p := ⟨g5, k, none⟩) hg5).trans zc4; have fc5 : w5.cell? ⟨g6, k, none⟩ = some (.int .i64 (pf + 1)) := (b5.cell (p := ⟨g6, k, none⟩) hg6).trans fc4)
          all_goals
            have b5' : Below W4.heap.size W4 w5 := ⟨b5.os, b5.tape, b5.output, b5.size, b5.block⟩
            have A6 : Hid (Below w5.heap.size w5 (w5.alloc (.cells #[Value.string (who ++ { data := #[46] } ++ D)] 9))) := (Below.refl _ _).alloc (Nat.le_refl _) _
            have B5 := Lib.hid (B4.out.trans (b5'.mono B4.out.size))
            have R6 := Lib.hid ((R4.out.still (Still.of_below b5')).still (Still.of_below A6.out))
            have T6 := Lib.hid ((T4.out.below b5').below A6.out)
            have B6 := Lib.hid (B5.out.trans (A6.out.mono B5.out.size))
            have hlk6 : lk < 1000000 := by omega
            have hid6 : ids.length < 1000000 := by rw [← HLK.out]; exact hlk6
            clear b5 b5' zc5 fc5 zc4 fc4 R4 T4 B4 hg5 hg6
            go_wp2_with (first
              | ((with_reducible show wpList _ _ _ (⟨some 163, _, _, _, _, _⟩ :: _) _ _); go_must (refine wpList_append_str rfl _ _ rfl w.heap.size _ ids rfl R6.out.oI w5.heap.size 1 (who ++ { data := #[46] } ++ D) rfl (by rw [cell_of_row _ _ 0 _ 9 (0, 0) (heap_alloc_new _ _)]; rfl) hid6 (by have := B5.out.size; simp; omega) ?_; intro v7 w7 o7 gr7; have A8 : Hid (Below w7.heap.size w7 (w7.alloc (.cells #[Value.int .i64 0] 3))) := (Below.refl _ _).alloc (Nat.le_refl _) _; have B7 := Lib.hid (B6.out.trans (own_below R6.out.oI gr7 (by have := B5.out.size; simp; omega))); have R8 := Lib.hid ((R6.out.putI o7 gr7).still (Still.of_below A8.out)); have T8 := Lib.hid ((T6.out.other (own_other R6.out.oI gr7) (by decide) (by decide) (by decide)).below A8.out); have B8 := Lib.hid (B7.out.trans (A8.out.mono B7.out.size)); simp only [Act.put, List.setIfInBounds_toArray, List.set_cons_zero, List.set_cons_succ]))
              | ((with_reducible show wpList _ _ _ (⟨some 166, _, _, _, _, _⟩ :: _) _ _); go_must (refine wpList_append_i3 _ rfl _ _ rfl w.heap.size (.slice (some ⟨g6, 0, none⟩) lk cap6) lk (fk.set k (pf + 1)) rfl (by have := R8.out.oF; rw [List.length_set, HLF.out] at this; exact this) ⟨w7.heap.size, 0, none⟩ 1 0 rfl (by rw [cell_of_row _ _ 0 _ 3 (0, 0) (heap_alloc_new _ _)]; rfl) hlk6 (by have := B7.out.size; simp; omega) (w7.heap.size + 1) (by simp) ?_; intro g9 cap9 w9 o9 gr9 hat9 i9; obtain ⟨L9, n9, t9⟩ := both_grow N4.out T8.out R8.out.oF gr9 i9; have A10 : Hid (Below w9.heap.size w9 (w9.alloc (.cells #[Value.int .i64 0] 3))) := (Below.refl _ _).alloc (Nat.le_refl _) _; have B9 := Lib.hid (B8.out.trans (own_below R8.out.oF gr9 (by have := B7.out.size; simp; omega))); have N10 := Lib.hid n9; have R10 := Lib.hid ((R8.out.putF (by rw [List.length_set]; exact HLF.out) o9 gr9 (by simpa using hat9)).still (Still.of_below A10.out)); have T10 := Lib.hid (t9.below A10.out); have B10 := Lib.hid (B9.out.trans (A10.out.mono B9.out.size)); clear n9 t9 o9 gr9 hat9 i9; simp only [Act.put, List.setIfInBounds_toArray, List.set_cons_zero, List.set_cons_succ]))
              | ((with_reducible show wpList _ _ _ (⟨some 169, _, _, _, _, _⟩ :: _) _ _); go_must (refine wpList_append_i3 _ rfl _ _ rfl w.heap.size (.slice (some ⟨g7, 0, none⟩) lk cap7) lk mk rfl (by have := R10.out.oM; rw [HLM.out] at this; exact this) ⟨w9.heap.size, 0, none⟩ 1 0 rfl (by rw [cell_of_row _ _ 0 _ 3 (0, 0) (heap_alloc_new _ _)]; rfl) hlk6 (by have := B9.out.size; simp; omega) (w9.heap.size + 1) (by simp) ?_; intro g11 cap11 w11 o11 gr11 hat11 i11; simp only [Act.put, List.setIfInBounds_toArray, List.set_cons_zero, List.set_cons_succ])))
            obtain ⟨L11, n11, t11⟩ := both_grow N10.out T10.out R10.out.oM gr11 i11
            have r11 := R10.out.putM HLM.out o11 gr11 (by simpa using hat11)
            have b11 := B10.out.trans (own_below R10.out.oM gr11 (by have := B9.out.size; simp; omega))
            go_roundw
            case rel => exact ⟨i + 1, ids ++ [who ++ { data := #[46] } ++ D], fk.set k (pf + 1) ++ [0], mk ++ [0], tg, L11, bl4, by push_cast; rfl, by omega, by rw [List.length_append]; omega, by rw [← HLT.out]; omega, n11, r11, t11, b11⟩
            case measure => simp [intOf]; omega
        · have K1 : Hid (Calls Tryd.prog 13 #[.pointer (some ⟨T, 0, none⟩), .string who, .int .i64 3] wr fun e w' => e = .returned (.tuple #[.string ⟨#[]⟩, .int .i64 65]) ∧ w' = wr) := by
            have := fork_no w.heap.size T M bl3 L who 3 wr HT.out HN.out.inv.fine hwm hfe
            rw [forkErr_many HPG.out HPX.out hfe] at this
            exact this
          clear hfe
          go_wp2_with (go_at_call 13; refine K1.out.mono ?_; rintro e w3 ⟨rfl, hw3⟩; rw [hw3])
          go_roundw
          case rel => exact ⟨i + 1, ids, fk, mk, tg, L, bl3, by push_cast; rfl, by omega, hid0, by rw [← HLT.out]; omega, HN.out, by rw [← HLK.out] at *; exact HR.out, HT.out, HB.out⟩
          case measure => simp [intOf]; omega
    · have BZ := Lib.hid hB
      clear hN hR hT hB
      by_cases hin : i < n
      all_goals
        go_wp2_with (go_at_call 15; refine (awake_any _).mono ?_; rintro e w9 ⟨rfl, b9⟩)
        all_goals first
          | (exfalso; omega)
          | (go_ret; exact ⟨rfl, BZ.out.trans (b9.mono BZ.out.size)⟩)
end Go.Proofs.YtmphnoabkmoafaaDoor
