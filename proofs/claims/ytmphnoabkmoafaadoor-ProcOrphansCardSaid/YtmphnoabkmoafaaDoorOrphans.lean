/- The walk of ProcOrphans. -/
import Derived.Test.YtmphnoabkmoafaaDoorOrphL
import Derived.Test.YtmphnoabkmoafaaDoorBools
import Derived.Test.YtmphnoabkmoafaaDoorBitsL
namespace Go.Proofs.YtmphnoabkmoafaaDoor
open Go.RowKit Go.Maps
set_option linter.unusedVariables false
theorem orphA_n {n : Int} (h0 : 1 ≤ n) (h1 : n ≤ 8) : orphA n n.toNat 0 0 oL0 = true := by
  obtain rfl | rfl | rfl | rfl | rfl | rfl | rfl | rfl : n = 1 ∨ n = 2 ∨ n = 3 ∨ n = 4 ∨ n = 5 ∨ n = 6 ∨ n = 7 ∨ n = 8 := by omega
  · exact orph1
  · exact orph2
  · exact orph3
  · exact orph4
  · exact orph5
  · exact orph6
  · exact orph7
  · exact orph8
theorem orphA_step {n : Int} {f : Nat} {i gone : Int} {L : List PR} (h : orphA n (f + 1) i gone L = true) :
    i < n ∧ ∃ s L1 L2, forkK L b11 1 = some (s, L1) ∧ orphA n f (i + 1) gone L1 = true ∧ exitK L1 s i = some L2 ∧ orphA n f (i + 1) (gone + 1) L2 = true := by
  unfold orphA at h
  rw [Bool.and_eq_true] at h
  obtain ⟨h0, h⟩ := h
  refine ⟨of_decide_eq_true h0, ?_⟩
  split at h
  · cases h
  · rename_i s L1 hf
    rw [Bool.and_eq_true] at h
    obtain ⟨h1, h⟩ := h
    split at h
    · cases h
    · rename_i L2 he
      exact ⟨s, L1, L2, hf, h1, he, h⟩
theorem orphA_end {n i gone : Int} {L : List PR} (h : orphA n 0 i gone L = true) :
    i = n ∧ ∃ s st L1 L2, waitK L oneB = some (s, st, 63, L1) ∧ exitK L1 b11 99 = some L2 ∧ orphB n gone 12 L2 ⟨#[]⟩ 0 = true := by
  unfold orphA at h
  rw [Bool.and_eq_true] at h
  obtain ⟨h0, h⟩ := h
  refine ⟨of_decide_eq_true h0, ?_⟩
  split at h
  · rename_i s st g L1 hw
    rw [Bool.and_eq_true] at h
    obtain ⟨hg, h⟩ := h
    obtain rfl := of_decide_eq_true hg
    split at h
    · rename_i L2 he
      exact ⟨s, st, L1, L2, hw, he, h⟩
    · cases h
  · cases h
theorem orphB_step {n gone got : Int} {f : Nat} {L : List PR} {prev : ByteArray} (h : orphB n gone f L prev got = true) :
    ∃ f' s st g L', f = f' + 1 ∧ waitK L oneB = some (s, st, g, L') ∧
      ((g = 0 ∧ (s = b11 → st = 99) ∧ ltB prev s = true ∧ orphB n gone f' L' s (got + 1) = true) ∨
       (g ≠ 0 ∧ (gone = n ∧ g = 61 ∨ gone < n ∧ g = 63) ∧ got = gone + 1 ∧ ∃ p, get L' oneB = some p ∧ p.share = 30 - 2 * (n - gone) ∧ fineB p = true)) := by
  cases f with
  | zero => cases h
  | succ f =>
    unfold orphB at h
    split at h
    · cases h
    · rename_i s st g L' hw
      refine ⟨f, s, st, g, L', rfl, hw, ?_⟩
      split at h
      · rename_i hg
        simp only [Bool.and_eq_true, Bool.not_eq_true', Bool.and_eq_false_iff, decide_eq_false_iff_not, Bool.not_eq_false', decide_eq_true_eq] at h
        obtain ⟨⟨h1, h2⟩, h3⟩ := h
        exact .inl ⟨hg, fun e => h1.resolve_left (fun k => k e), h2, h3⟩
      · rename_i hg
        simp only [Bool.and_eq_true] at h
        obtain ⟨⟨h1, h2⟩, h3⟩ := h
        refine .inr ⟨hg, ?_, of_decide_eq_true h2, ?_⟩
        · split at h1
          · rename_i e
            exact .inl ⟨e, of_decide_eq_true h1⟩
          · rw [Bool.and_eq_true] at h1
            exact .inr ⟨of_decide_eq_true h1.2, of_decide_eq_true h1.1⟩
        · split at h3
          · rename_i p hp
            rw [Bool.and_eq_true] at h3
            exact ⟨p, hp, of_decide_eq_true h3.1, h3.2⟩
          · cases h3
set_option maxRecDepth 100000 in
set_option maxHeartbeats 2000000 in
theorem orph_any (n : Int) (v : Value) (m : Nat) (F : Nat → Bool) (w : World) (hb : BoolsAt w v m F) :
    Calls Tryd.prog 4 #[.int .i64 n, v] w fun e w' => e = .returned (.bool true) ∧ Below w.heap.size w w' := by
  obtain ⟨ao, cap, rfl, hm, hcells⟩ := hb
  have HC := Lib.hid hcells
  clear hcells
  have c0 := new_ok 30 w (by omega) (by omega)
  have c1 : ∀ w1 B T M bl, TabAt w1 B T M bl [firstP 30] → Calls Tryd.prog 13 #[ptr T, .string ⟨#[49]⟩, .int .i64 20] w1 fun e w' => ∃ bl', e = .returned (.tuple #[.string b11, .int .i64 0]) ∧ TabAt w' B T M bl' oL0 ∧ Below B w1 w' := fun w1 B T M bl h => forkK_call oL0_eq h
  have X0 := Lib.hid c0
  have X1 := Lib.hid c1
  clear c0 c1
  unfold ptr at X0 X1
  obtain ⟨x, hx⟩ : ∃ x, bits BinOp.and IntKind.i64 n 7 = x := ⟨_, rfl⟩
  have hx0 : 0 ≤ x ∧ x ≤ 7 := by rw [← hx]; exact and_small n 7 (by omega)
  obtain ⟨hx0, hx1⟩ := hx0
  have HA := Lib.hid (orphA_n (n := x + 1) (by omega) (by omega))
  obtain ⟨N, hN⟩ : ∃ N, x + 1 = N := ⟨_, rfl⟩
  rw [hN] at HA
  have hN0 : 1 ≤ N := by omega
  have hN1 : N ≤ 8 := by omega
  have hw64 : wrap64 (x + 1) = N := by unfold wrap64; omega
  go_enter Tryd.func4, Tryd.ntmps4
  go_wp2_with (first
    | (go_at_call 10; refine X0.out.mono ?_; rintro e w1 ⟨T, M, bl, rfl, t1, b1⟩; obtain ⟨G0⟩ : Nonempty Nat := ⟨0⟩)
    | (go_at_call 13; have G1 := G0; clear G0; refine (X1.out _ _ _ _ _ t1).mono ?_; rintro e w2 ⟨bl2, rfl, t2, b2⟩))
  have HB2 := Lib.hid (b1.trans b2)
  have HT2 := Lib.hid t2
  clear t1 t2 b1 b2 hw64 hN hx hx0 hx1
  go_loopw [9, 10, 11, 12] (fun vg vi _ _ wr => ∃ (i gone : Int) (L : List PR) (bl : ByteArray → Nat), vg = .int .i64 gone ∧ vi = .int .i64 i ∧ 0 ≤ i ∧ i ≤ N ∧ 0 ≤ gone ∧ gone ≤ i ∧ orphA N (N - i).toNat i gone L = true ∧ TabAt wr w.heap.size T M bl L ∧ Below w.heap.size w wr) (fun _ vi _ _ _ => (N - intOf vi).toNat)
  case atStart => exact ⟨0, 0, oL0, bl2, rfl, rfl, by omega, by omega, by omega, by omega, by rw [Int.sub_zero]; exact HA.out, HT2.out, HB2.out⟩
  case round =>
    obtain ⟨i, gone, L, bl3, rfl, rfl, hi0, hi1, hg0, hg1, hA, hT, hB⟩ := hrel
    by_cases hi : i < N
    · obtain ⟨f, hf⟩ : ∃ f, (N - i).toNat = f + 1 := ⟨(N - i).toNat - 1, by omega⟩
      rw [hf] at hA
      obtain ⟨_, s, L1, L2, hk1, hA1, hk2, hA2⟩ := orphA_step hA
      have hf1 : (N - (i + 1)).toNat = f := by omega
      rw [← hf1] at hA1 hA2
      have HA1 := Lib.hid hA1
      have HA2 := Lib.hid hA2
      have K1 := Lib.hid (forkK_call hk1 hT)
      have HB := Lib.hid hB
      have HK2 := Lib.hid hk2
      clear hk1 hk2 hA1 hA2 hT hB hf hf1 hA
      unfold ptr at K1
      by_cases him : i < m
      · obtain ⟨b, off, rfl, hbl, hcell⟩ := HC.out i.toNat (by omega)
        have HCE : Hid (∀ w', Below w.heap.size w w' → w'.cell? ⟨b, off + i.toNat, none⟩ = some (.bool (F i.toNat))) := fun w' k => (k.cell (p := ⟨b, off + i.toNat, none⟩) hbl).trans hcell
        clear hcell
        obtain ⟨e, he⟩ : ∃ e, e = F i.toNat := ⟨_, rfl⟩
        rw [← he] at HCE
        clear he
        cases e
        · go_wp2_with (first
            | (go_at_call 13; refine K1.out.mono ?_; rintro e w3 ⟨bl4, rfl, t3, b3⟩; have B3 := Lib.hid (HB.out.trans b3); have z3 := HCE.out w3 B3.out))
          go_roundw
          case rel => exact ⟨i + 1, gone, L1, bl4, rfl, rfl, by omega, by omega, by omega, by omega, HA1.out, t3, B3.out⟩
          case measure => simp [intOf]; omega
        · go_wp2_with (first
            | (go_at_call 13; refine K1.out.mono ?_; rintro e w3 ⟨bl4, rfl, t3, b3⟩; have B3 := Lib.hid (HB.out.trans b3); have z3 := HCE.out w3 B3.out; have K2 := Lib.hid (exitK_call HK2.out t3))
            | (go_at_call 16; refine K2.out.mono ?_; rintro e w4 ⟨rfl, t4, b4⟩))
          go_roundw
          case rel => exact ⟨i + 1, gone + 1, L2, bl4, rfl, rfl, by omega, by omega, by omega, by omega, HA2.out, t4, B3.out.trans b4⟩
          case measure => simp [intOf]; omega
      · go_wp2_with (first
          | (go_at_call 13; refine K1.out.mono ?_; rintro e w3 ⟨bl4, rfl, t3, b3⟩; have B3 := Lib.hid (HB.out.trans b3)))
        go_roundw
        case rel => exact ⟨i + 1, gone, L1, bl4, rfl, rfl, by omega, by omega, by omega, by omega, HA1.out, t3, B3.out⟩
        case measure => simp [intOf]; omega
    · obtain rfl : i = N := by omega
      rw [Int.sub_self] at hA
      obtain ⟨_, s, st, L1, L2, hk1, hk2, hOB⟩ := orphA_end hA
      have K1 := Lib.hid (waitK_call hk1 hT)
      have HB := Lib.hid hB
      have HK2 := Lib.hid hk2
      have HO := Lib.hid hOB
      clear hk1 hk2 hT hB hA hOB
      unfold ptr at K1
      go_wp2_with (first
        | (go_at_call 17; refine K1.out.mono ?_; rintro e w3 ⟨rfl, t3, b3⟩; have B3 := Lib.hid (HB.out.trans b3); have K2 := Lib.hid (exitK_call HK2.out t3))
        | (go_at_call 16; refine K2.out.mono ?_; rintro e w4 ⟨rfl, t4, b4⟩; have B4 := Lib.hid (B3.out.trans b4)))
      have HT4 := Lib.hid t4
      clear t3 t4 b3 b4
      go_loopw [16, 17, 18, 19, 20] (fun vg vp _ _ _ wr => ∃ (f : Nat) (got : Int) (prev : ByteArray) (L : List PR), vg = .int .i64 got ∧ vp = .string prev ∧ 0 ≤ got ∧ got ≤ 1000 - f ∧ f ≤ 12 ∧ orphB i gone f L prev got = true ∧ TabAt wr w.heap.size T M bl3 L ∧ Below w.heap.size w wr) (fun vg _ _ _ _ _ => (1000 - intOf vg).toNat)
      case atStart => exact ⟨12, 0, ⟨#[]⟩, L2, rfl, rfl, by omega, by omega, by omega, HO.out, HT4.out, B4.out⟩
      case round =>
        obtain ⟨f, got, prev, L, rfl, rfl, hgot0, hgot1, hf12, hOB, hT, hB⟩ := hrel
        obtain ⟨f', s, st, g, L', rfl, hk, hor⟩ := orphB_step hOB
        have K1 := Lib.hid (waitK_call hk hT)
        have HB := Lib.hid hB
        have hBW := hB.size
        clear hk hT hB hOB
        unfold ptr at K1
        rcases hor with ⟨rfl, hst, hlt, hnx⟩ | ⟨hg, hcode, hgot, p, hp, hsh, hfi⟩
        · have HN := Lib.hid hnx
          have d1 := rises_walk hlt
          clear hnx hlt
          by_cases hs : s = b11
          · obtain rfl := hst hs
            have d2 : (s.toList == b11.toList) = true := by rw [str_eq]; simpa using hs
            clear hs hst
            go_wp2_with (first
              | (go_at_call 17; refine K1.out.mono ?_; rintro e w5 ⟨rfl, t5, b5⟩))
            go_roundw
            case rel => exact ⟨f', got + 1, s, L', rfl, rfl, by omega, by omega, by omega, HN.out, t5, HB.out.trans b5⟩
            case measure => simp [intOf]; omega
          · have d2 : (s.toList == b11.toList) = false := by rw [str_eq]; simpa using hs
            clear hs hst
            go_wp2_with (first
              | (go_at_call 17; refine K1.out.mono ?_; rintro e w5 ⟨rfl, t5, b5⟩))
            go_roundw
            case rel => exact ⟨f', got + 1, s, L', rfl, rfl, by omega, by omega, by omega, HN.out, t5, HB.out.trans b5⟩
            case measure => simp [intOf]; omega
        · have HP := Lib.hid hp
          have HF := Lib.hid (fine_fineB hfi)
          have HS := Lib.hid hsh
          clear hp hfi hsh
          have hsh2 : p.share = 30 - 2 * (i - gone) := HS.out
          obtain ⟨sh, hshe⟩ : ∃ sh, sh = p.share := ⟨_, rfl⟩
          rw [← hshe] at hsh2
          have HSH := Lib.hid hshe
          clear hshe
          rcases hcode with ⟨hgi, rfl⟩ | ⟨hgi, rfl⟩
          all_goals
            go_wp2_with (first
              | (go_at_call 17; refine K1.out.mono ?_; rintro e w5 ⟨rfl, t5, b5⟩; have B5 := Lib.hid (HB.out.trans b5); have K2 := Lib.hid (info_some w.heap.size T M bl3 L' oneB w5 p t5 (by decide) HF.out HP.out); unfold ptr infoV at K2; rw [← HSH.out] at K2)
              | (go_at_call 18; refine K2.out.mono ?_; rintro e w6 ⟨x, y, z, v, rfl, ix, iy, iz, iv, t6, b6⟩; obtain ⟨_, _, _, rfl⟩ := ix.shape3; obtain ⟨_, _, _, rfl⟩ := iy.shape3; obtain ⟨_, _, _, rfl⟩ := iz.shape3; obtain ⟨_, _, _, rfl⟩ := iv.shape3; have B6 := Lib.hid (B5.out.trans b6)))
            refine (awake_any _).mono ?_
            rintro e w8 ⟨rfl, b8⟩
            go_wp2
            go_ret
            exact ⟨rfl, B6.out.trans ((((Below.refl w6.heap.size w6).alloc (Nat.le_refl _) _).trans (b8.mono (by simp))).mono B6.out.size)⟩
end Go.Proofs.YtmphnoabkmoafaaDoor
