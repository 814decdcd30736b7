/- The walk of ProcRises. -/
import Derived.Test.YtmphnoabkmoafaaDoorRiseL
import Derived.Test.YtmphnoabkmoafaaDoorBools
namespace Go.Proofs.YtmphnoabkmoafaaDoor
open Go.RowKit Go.Maps
set_option linter.unusedVariables false
theorem rise_n {n : Nat} (h0 : 1 ≤ n) (h1 : n ≤ 8) : rise1 n n 0 [] [] rL1 = true := by
  obtain rfl | rfl | rfl | rfl | rfl | rfl | rfl | rfl : n = 1 ∨ n = 2 ∨ n = 3 ∨ n = 4 ∨ n = 5 ∨ n = 6 ∨ n = 7 ∨ n = 8 := by omega
  · exact rise_1
  · exact rise_2
  · exact rise_3
  · exact rise_4
  · exact rise_5
  · exact rise_6
  · exact rise_7
  · exact rise_8
theorem rise1_step {n f i : Nat} {ids : List ByteArray} {bits : List Bool} {L : List PR} (h : rise1 n (f + 1) i ids bits L = true) :
    ∃ c L1 L2, forkK L b11 0 = some (c, L1) ∧ rise1 n f (i + 1) (ids ++ [c]) (bits ++ [false]) L1 = true ∧ exitK L1 c i = some L2 ∧ rise1 n f (i + 1) (ids ++ [c]) (bits ++ [true]) L2 = true := by
  unfold rise1 at h
  rw [Bool.and_eq_true] at h
  obtain ⟨h0, h⟩ := h
  split at h
  · cases h
  · rename_i c L1 hf
    rw [Bool.and_eq_true] at h
    obtain ⟨h1, h⟩ := h
    split at h
    · cases h
    · rename_i L2 he
      exact ⟨c, L1, L2, hf, h1, he, h⟩
theorem rise1_end {n i : Nat} {ids : List ByteArray} {bits : List Bool} {L : List PR} (h : rise1 n 0 i ids bits L = true) :
    ∃ L1 s st L2 high L3, changeK L b11 [111] [] = some L1 ∧ waitK L1 b11 = some (s, st, 61, L2) ∧ forkK L2 b11 0 = some (high, L3) ∧ rise2 ids bits high n n 0 L3 = true := by
  unfold rise1 at h
  rw [Bool.and_eq_true] at h
  obtain ⟨h0, h⟩ := h
  split at h
  · rename_i L1 hc
    split at h
    · rename_i s st g L2 hw
      rw [Bool.and_eq_true] at h
      obtain ⟨hg, h⟩ := h
      obtain rfl := of_decide_eq_true hg
      split at h
      · rename_i high L3 hf
        exact ⟨L1, s, st, L2, high, L3, hc, hw, hf, h⟩
      · cases h
    · cases h
  · cases h
theorem rise2_step {ids : List ByteArray} {bits : List Bool} {high : ByteArray} {n f i : Nat} {L : List PR} (h : rise2 ids bits high n (f + 1) i L = true) :
    ∃ c, ids[i]? = some c ∧ ((bits[i]? = some true ∧ rise2 ids bits high n f (i + 1) L = true) ∨ (bits[i]? = some false ∧ ∃ L1, exitK L c i = some L1 ∧ rise2 ids bits high n f (i + 1) L1 = true)) := by
  unfold rise2 at h
  split at h
  · rename_i c hb hc
    exact ⟨c, hc, .inl ⟨hb, h⟩⟩
  · rename_i c hb hc
    split at h
    · rename_i L1 he
      exact ⟨c, hc, .inr ⟨hb, L1, he, h⟩⟩
    · cases h
  · cases h
theorem rise2_end {ids : List ByteArray} {bits : List Bool} {high : ByteArray} {n i : Nat} {L : List PR} (h : rise2 ids bits high n 0 i L = true) :
    ∃ s st L1, waitK L b11 = some (s, st, 63, L1) ∧ rise3 ids high n 0 L1 = true := by
  unfold rise2 at h
  split at h
  · rename_i s st g L1 hw
    rw [Bool.and_eq_true] at h
    obtain ⟨hg, h⟩ := h
    obtain rfl := of_decide_eq_true hg
    exact ⟨s, st, L1, hw, h⟩
  · cases h
theorem rise3_step {ids : List ByteArray} {high : ByteArray} {f i : Nat} {L : List PR} (h : rise3 ids high (f + 1) i L = true) :
    ∃ s L1, waitK L oneB = some (s, (i : Int), 0, L1) ∧ ids[i]? = some s ∧ rise3 ids high f (i + 1) L1 = true := by
  unfold rise3 at h
  split at h
  · rename_i s st g L1 hw
    simp only [Bool.and_eq_true, decide_eq_true_eq] at h
    obtain ⟨⟨⟨rfl, h2⟩, rfl⟩, h4⟩ := h
    exact ⟨s, L1, hw, h2, h4⟩
  · cases h
theorem rise3_end {ids : List ByteArray} {high : ByteArray} {i : Nat} {L : List PR} (h : rise3 ids high 0 i L = true) :
    ∃ s st L1 L2 L3, waitK L oneB = some (s, st, 63, L1) ∧ exitK L1 high 9 = some L2 ∧ waitK L2 b11 = some (high, 9, 0, L3) := by
  unfold rise3 at h
  split at h
  · rename_i s st g L1 hw
    rw [Bool.and_eq_true] at h
    obtain ⟨hg, h⟩ := h
    obtain rfl := of_decide_eq_true hg
    split at h
    · rename_i L2 he
      split at h
      · rename_i s' st' g' L3 hw2
        simp only [Bool.and_eq_true, decide_eq_true_eq] at h
        obtain ⟨⟨rfl, rfl⟩, rfl⟩ := h
        exact ⟨s, st, L1, L2, L3, hw, he, hw2⟩
      · cases h
    · cases h
  · cases h
set_option maxRecDepth 100000 in
set_option maxHeartbeats 4000000 in
theorem rise_any (n : Int) (v : Value) (m : Nat) (F : Nat → Bool) (w : World) (hb : BoolsAt w v m F) :
    Calls Tryd.prog 7 #[.int .i64 n, v] w fun e w' => e = .returned (.bool true) ∧ Below w.heap.size w w' := by
  obtain ⟨ao, cap, rfl, hm, hcells⟩ := hb
  have HC := Lib.hid hcells
  clear hcells
  have c0 := new_ok 40 w (by omega) (by omega)
  have c1 : ∀ w1 B T M bl, TabAt w1 B T M bl [firstP 40] → Calls Tryd.prog 13 #[ptr T, .string ⟨#[49]⟩, .int .i64 30] w1 fun e w' => ∃ bl', e = .returned (.tuple #[.string b11, .int .i64 0]) ∧ TabAt w' B T M bl' rL0 ∧ Bel B w1 w' := fun w1 B T M bl h => forkK_call rL0_eq h
  have c2 : ∀ w1 B T M bl, TabAt w1 B T M bl rL0 → Calls Tryd.prog 11 #[ptr T, .string b11] w1 fun e w' => e = .returned (.tuple #[.int .i64 111, .int .i64 0]) ∧ TabAt w' B T M bl rL1 ∧ Bel B w1 w' := fun w1 B T M bl h => tagK_call (tagK1_eq rL1_eq) h
  have X0 := Lib.hid c0
  have X1 := Lib.hid c1
  have X2 := Lib.hid c2
  clear c0 c1 c2
  unfold ptr at X0 X1 X2
  obtain ⟨x, hx⟩ : ∃ x, bits BinOp.and IntKind.i64 n 7 = x := ⟨_, rfl⟩
  have hx0 : 0 ≤ x ∧ x ≤ 7 := by rw [← hx]; exact and_small n 7 (by omega)
  obtain ⟨hx0, hx1⟩ := hx0
  obtain ⟨N, hN⟩ : ∃ N : Nat, x + 1 = (N : Int) := ⟨(x + 1).toNat, by omega⟩
  have HA := Lib.hid (rise_n (n := N) (by omega) (by omega))
  have hN0 : 1 ≤ N := by omega
  have hN1 : N ≤ 8 := by omega
  have hw64 : wrap64 (x + 1) = (N : Int) := by unfold wrap64; omega
  go_enter Tryd.func7, Tryd.ntmps7
  go_wp2_with (first
    | (go_at_call 10; refine X0.out.mono ?_; rintro e w1 ⟨T, M, bl, rfl, t1, b1⟩)
    | (go_at_call 13; refine (X1.out _ _ _ _ _ t1).mono ?_; rintro e w2 ⟨bl2, rfl, t2, b2⟩)
    | (go_at_call 11; refine (X2.out _ _ _ _ _ t2).mono ?_; rintro e w3 ⟨rfl, t3, b3⟩))
  have HB2 := Lib.hid (b1.trans (b2.trans b3).toBelow)
  have HT2 := Lib.hid t3
  clear t1 t2 t3 b1 b2 b3 hw64 hN hx hx0 hx1
  go_loopw [11, 12, 13, 14] (fun vl vi _ _ wr => ∃ (i : Nat) (ids : List ByteArray) (bs : List Bool) (L : List PR) (bl : ByteArray → Nat), vi = .int .i64 i ∧ i ≤ N ∧ ids.length = i ∧ bs = (List.range i).map (fun k => decide (k < m) && F k) ∧ rise1 N (N - i) i ids bs L = true ∧ OwnS wr w.heap.size vl ids ∧ TabAt wr w.heap.size T M bl L ∧ Below w.heap.size w wr) (fun _ vi _ _ _ => N - (intOf vi).toNat)
  case atStart => exact ⟨0, [], [], rL1, bl2, rfl, by omega, rfl, rfl, by rw [Nat.sub_zero]; exact HA.out, OwnS.nil _ _, HT2.out, HB2.out⟩
  case round =>
    obtain ⟨i, ids, bs, L, bl3, rfl, hi1, hids, hbs, hA, hO, hT, hB⟩ := hrel
    by_cases hi : i < N
    · obtain ⟨f, hf⟩ : ∃ f, N - i = f + 1 := ⟨N - i - 1, by omega⟩
      rw [hf] at hA
      obtain ⟨c, L1, L2, hk1, hA1, hk2, hA2⟩ := rise1_step hA
      have hf1 : N - (i + 1) = f := by omega
      rw [← hf1] at hA1 hA2
      have HA1 := Lib.hid hA1
      have HA2 := Lib.hid hA2
      have K1 := Lib.hid (forkK_call hk1 hT)
      have HB := Lib.hid hB
      have HO := Lib.hid hO
      have HK2 := Lib.hid hk2
      have HBS := Lib.hid hbs
      clear hk1 hk2 hA1 hA2 hT hB hf hf1 hA hO hbs
      unfold ptr at K1
      have HBS2 : Hid (∀ b, (decide (i < m) && F i) = b → bs ++ [b] = (List.range (i + 1)).map (fun k => decide (k < m) && F k)) := fun b hb => by rw [List.range_succ, List.map_append, ← HBS.out]; simp [hb]
      by_cases him : i < m
      · obtain ⟨b, off, rfl, hbl, hcell⟩ := HC.out i (by omega)
        have HCE : Hid (∀ w', Below w.heap.size w w' → w'.cell? ⟨b, off + i, none⟩ = some (.bool (F i))) := fun w' k => (k.cell (p := ⟨b, off + i, none⟩) hbl).trans hcell
        clear hcell
        obtain ⟨e, he⟩ : ∃ e, e = F i := ⟨_, rfl⟩
        rw [← he] at HCE
        have HE := Lib.hid he
        clear he
        cases e
        · go_wp2_with (first
            | (go_at_call 13; refine K1.out.mono ?_; rintro e w4 ⟨bl4, rfl, t4, b4⟩; have B4 := Lib.hid (HB.out.trans b4.toBelow); have O4 := Lib.hid (HO.out.still b4.still))
            | ((with_reducible show wpList _ _ _ (⟨some 80, _, _, _, _, _⟩ :: _) _ _); go_must (refine wpList_append_str rfl _ _ rfl w.heap.size _ ids rfl (O4.out.still (Still.of_below ((Below.refl _ _).alloc (Nat.le_refl _) _))) w4.heap.size 1 c rfl (by rw [cell_of_row _ _ 0 _ 9 (0, 0) (heap_alloc_new _ _)]; rfl) (by omega) (by have := B4.out.size; simp; omega) ?_; intro v5 w5 o5 g5; have A5 := Lib.hid (Below.alloc (Below.refl w4.heap.size w4) (Nat.le_refl _) (.cells #[Value.string c] 9)); have O4' := Lib.hid (O4.out.still (Still.of_below A5.out)); have T5 := Lib.hid ((t4.below A5.out).other (own_other O4'.out g5) (by decide) (by decide) (by decide)); have B5 := Lib.hid ((B4.out.trans (A5.out.mono B4.out.size)).trans (own_below O4'.out g5 (by have := B4.out.size; simp; omega))); have z5 := HCE.out w5 B5.out; simp only [Act.put, List.setIfInBounds_toArray, List.set_cons_zero, List.set_cons_succ])))
          go_roundw
          case rel => exact ⟨i + 1, ids ++ [c], bs ++ [false], L1, bl4, by push_cast; rfl, by omega, by simp [hids], HBS2.out _ (by rw [← HE.out]; simp), HA1.out, o5, T5.out, B5.out⟩
          case measure => simp [intOf]; omega
        · go_wp2_with (first
            | (go_at_call 13; refine K1.out.mono ?_; rintro e w4 ⟨bl4, rfl, t4, b4⟩; have B4 := Lib.hid (HB.out.trans b4.toBelow); have O4 := Lib.hid (HO.out.still b4.still))
            | ((with_reducible show wpList _ _ _ (⟨some 80, _, _, _, _, _⟩ :: _) _ _); go_must (refine wpList_append_str rfl _ _ rfl w.heap.size _ ids rfl (O4.out.still (Still.of_below ((Below.refl _ _).alloc (Nat.le_refl _) _))) w4.heap.size 1 c rfl (by rw [cell_of_row _ _ 0 _ 9 (0, 0) (heap_alloc_new _ _)]; rfl) (by omega) (by have := B4.out.size; simp; omega) ?_; intro v5 w5 o5 g5; have A5 := Lib.hid (Below.alloc (Below.refl w4.heap.size w4) (Nat.le_refl _) (.cells #[Value.string c] 9)); have O4' := Lib.hid (O4.out.still (Still.of_below A5.out)); have T5 := Lib.hid ((t4.below A5.out).other (own_other O4'.out g5) (by decide) (by decide) (by decide)); have B5 := Lib.hid ((B4.out.trans (A5.out.mono B4.out.size)).trans (own_below O4'.out g5 (by have := B4.out.size; simp; omega))); have z5 := HCE.out w5 B5.out; have K2 := Lib.hid (exitK_call HK2.out T5.out); simp only [Act.put, List.setIfInBounds_toArray, List.set_cons_zero, List.set_cons_succ]))
            | (go_at_call 16; refine K2.out.mono ?_; rintro e w6 ⟨rfl, t6, b6⟩))
          go_roundw
          case rel => exact ⟨i + 1, ids ++ [c], bs ++ [true], L2, bl4, by push_cast; rfl, by omega, by simp [hids], HBS2.out _ (by rw [← HE.out]; simp [him]), HA2.out, o5.still b6.still, t6, B5.out.trans b6.toBelow⟩
          case measure => simp [intOf]; omega
      · go_wp2_with (first
          | (go_at_call 13; refine K1.out.mono ?_; rintro e w4 ⟨bl4, rfl, t4, b4⟩; have B4 := Lib.hid (HB.out.trans b4.toBelow); have O4 := Lib.hid (HO.out.still b4.still))
          | ((with_reducible show wpList _ _ _ (⟨some 80, _, _, _, _, _⟩ :: _) _ _); go_must (refine wpList_append_str rfl _ _ rfl w.heap.size _ ids rfl (O4.out.still (Still.of_below ((Below.refl _ _).alloc (Nat.le_refl _) _))) w4.heap.size 1 c rfl (by rw [cell_of_row _ _ 0 _ 9 (0, 0) (heap_alloc_new _ _)]; rfl) (by omega) (by have := B4.out.size; simp; omega) ?_; intro v5 w5 o5 g5; have A5 := Lib.hid (Below.alloc (Below.refl w4.heap.size w4) (Nat.le_refl _) (.cells #[Value.string c] 9)); have O4' := Lib.hid (O4.out.still (Still.of_below A5.out)); have T5 := Lib.hid ((t4.below A5.out).other (own_other O4'.out g5) (by decide) (by decide) (by decide)); have B5 := Lib.hid ((B4.out.trans (A5.out.mono B4.out.size)).trans (own_below O4'.out g5 (by have := B4.out.size; simp; omega))); simp only [Act.put, List.setIfInBounds_toArray, List.set_cons_zero, List.set_cons_succ])))
        go_roundw
        case rel => exact ⟨i + 1, ids ++ [c], bs ++ [false], L1, bl4, by push_cast; rfl, by omega, by simp [hids], HBS2.out _ (by simp [him]), HA1.out, o5, T5.out, B5.out⟩
        case measure => simp [intOf]; omega
    · obtain rfl : i = N := by omega
      rw [Nat.sub_self] at hA
      obtain ⟨L1, s1, st1, L2, high, L3, hk1, hk2, hk3, hA2⟩ := rise1_end hA
      have K1 : Hid (∀ w1 vS, TabAt w1 w.heap.size T M bl3 L → IntsAt w1 vS [111] → Calls Tryd.prog 22 #[.pointer (some ⟨T, 0, none⟩), .string b11, .agg #[vS, .slice none 0 0]] w1 fun e w' => e = .returned (.int .i64 0) ∧ TabAt w' w.heap.size T M bl3 L1 ∧ Bel w.heap.size w1 w') := fun w1 vS h k => changeK_call hk1 h k (IntsAt.nil _)
      have K2 : Hid (∀ w1, TabAt w1 w.heap.size T M bl3 L1 → Calls Tryd.prog 17 #[.pointer (some ⟨T, 0, none⟩), .string b11] w1 fun e w' => e = .returned (.tuple #[.string s1, .int .i64 st1, .int .i64 61]) ∧ TabAt w' w.heap.size T M bl3 L2 ∧ Bel w.heap.size w1 w') := fun w1 h => waitK_call hk2 h
      have K3 : Hid (∀ w1, TabAt w1 w.heap.size T M bl3 L2 → Calls Tryd.prog 13 #[.pointer (some ⟨T, 0, none⟩), .string b11, .int .i64 0] w1 fun e w' => ∃ bl', e = .returned (.tuple #[.string high, .int .i64 0]) ∧ TabAt w' w.heap.size T M bl' L3 ∧ Bel w.heap.size w1 w') := fun w1 h => forkK_call hk3 h
      obtain ⟨g, cap2, cur, rfl, hBg, hrow, hcap, hcur⟩ := hO.row (by omega)
      have hAl : Below wr.heap.size wr (wr.alloc (.cells #[Value.int .i64 111] 3)) := (Below.refl _ _).alloc (Nat.le_refl _) _
      have HT := Lib.hid (hT.below hAl)
      have HI := Lib.hid (IntsAt.new wr 3 [111] (by simp))
      have HB := Lib.hid (hB.trans (hAl.mono hB.size))
      have HR := Lib.hid (Still.of_below hAl _ _ _ _ hrow (by decide))
      have HCU := Lib.hid hcur
      have HA2 := Lib.hid hA2
      have HBS := Lib.hid hbs
      rw [hids]
      rw [hids] at hcap
      clear hk1 hk2 hk3 hA2 hT hB hA hO hAl hrow hcur hbs
      go_wp2_with (first
        | (go_at_call 22; refine (K1.out _ _ HT.out HI.out).mono ?_; rintro e w4 ⟨rfl, t4, b4⟩)
        | (go_at_call 17; refine (K2.out _ t4).mono ?_; rintro e w5 ⟨rfl, t5, b5⟩)
        | (go_at_call 13; refine (K3.out _ t5).mono ?_; rintro e w6 ⟨bl6, rfl, t6, b6⟩))
      have B6 := Lib.hid (HB.out.trans (b4.trans (b5.trans b6)).toBelow)
      have R6 := Lib.hid ((b4.trans (b5.trans b6)).still _ _ _ _ HR.out (by decide))
      have T6 := Lib.hid t6
      clear t4 t5 t6 b4 b5 b6
      go_loopw [20] (fun vi wr => ∃ (j : Nat) (L : List PR), vi = .int .i64 j ∧ j ≤ i ∧ rise2 ids bs high i (i - j) j L = true ∧ wr.heap[g]? = some (.cells cur 9 (0, 0)) ∧ TabAt wr w.heap.size T M bl6 L ∧ Below w.heap.size w wr) (fun vi _ => i - (intOf vi).toNat)
      case atStart => exact ⟨0, L3, rfl, by omega, by rw [Nat.sub_zero]; exact HA2.out, R6.out, T6.out, B6.out⟩
      case round =>
        obtain ⟨j, L, rfl, hj1, hA, hrow, hT, hB⟩ := hrel
        by_cases hj : j < i
        · obtain ⟨f, hf⟩ : ∃ f, i - j = f + 1 := ⟨i - j - 1, by omega⟩
          rw [hf] at hA
          obtain ⟨c, hc, hor⟩ := rise2_step hA
          have hf1 : i - (j + 1) = f := by omega
          rw [← hf1] at hor
          have hbj : bs[j]? = some (decide (j < m) && F j) := by rw [HBS.out]; simp [hj]
          have hcg : wr.cell? ⟨g, j, none⟩ = some (.string c) := by
            rw [cell_of_row _ _ _ _ 9 (0, 0) hrow, HCU.out j (by omega)]
            rw [List.getElem?_eq_getElem (by omega)] at hc
            cases hc
            rfl
          have HR := Lib.hid hrow
          have HT := Lib.hid hT
          have HB := Lib.hid hB
          clear hA hf hf1 hrow hT hB
          rcases hor with ⟨hbt, hn⟩ | ⟨hbt, L1', hk, hn⟩
          · rw [hbt] at hbj
            have him : j < m ∧ F j = true := by simpa using hbj.symm
            obtain ⟨him, hFj⟩ := him
            obtain ⟨b, off, rfl, hbl, hcell⟩ := HC.out j (by omega)
            rw [hFj] at hcell
            have zc : wr.cell? ⟨b, off + j, none⟩ = some (.bool true) := (HB.out.cell (p := ⟨b, off + j, none⟩) hbl).trans hcell
            have HN := Lib.hid hn
            clear hn hcell hbt hbj hc
            go_wp2
            go_roundw
            case rel => exact ⟨j + 1, L, by push_cast; rfl, by omega, HN.out, HR.out, HT.out, HB.out⟩
            case measure => simp [intOf]; omega
          · rw [hbt] at hbj
            have HN := Lib.hid hn
            have K4 : Hid (Calls Tryd.prog 16 #[.pointer (some ⟨T, 0, none⟩), .string c, .int .i64 j] wr fun e w' => e = .returned (.int .i64 0) ∧ TabAt w' w.heap.size T M bl6 L1' ∧ Bel w.heap.size wr w') := exitK_call hk HT.out
            clear hn hk hc hbt
            by_cases him : j < m
            · have hFj : F j = false := by simpa [him] using hbj.symm
              obtain ⟨b, off, rfl, hbl, hcell⟩ := HC.out j (by omega)
              rw [hFj] at hcell
              have zc : wr.cell? ⟨b, off + j, none⟩ = some (.bool false) := (HB.out.cell (p := ⟨b, off + j, none⟩) hbl).trans hcell
              clear hcell hbj
              go_wp2_with (go_at_call 16; refine K4.out.mono ?_; rintro e w7 ⟨rfl, t7, b7⟩)
              go_roundw
              case rel => exact ⟨j + 1, L1', by push_cast; rfl, by omega, HN.out, b7.still _ _ _ _ HR.out (by decide), t7, HB.out.trans b7.toBelow⟩
              case measure => simp [intOf]; omega
            · clear hbj
              go_wp2_with (go_at_call 16; refine K4.out.mono ?_; rintro e w7 ⟨rfl, t7, b7⟩)
              go_roundw
              case rel => exact ⟨j + 1, L1', by push_cast; rfl, by omega, HN.out, b7.still _ _ _ _ HR.out (by decide), t7, HB.out.trans b7.toBelow⟩
              case measure => simp [intOf]; omega
        · obtain rfl : j = i := by omega
          rw [Nat.sub_self] at hA
          obtain ⟨s2, st2, L4, hk4, hA3⟩ := rise2_end hA
          have K5 : Hid (Calls Tryd.prog 17 #[.pointer (some ⟨T, 0, none⟩), .string b11] wr fun e w' => e = .returned (.tuple #[.string s2, .int .i64 st2, .int .i64 63]) ∧ TabAt w' w.heap.size T M bl6 L4 ∧ Bel w.heap.size wr w') := waitK_call hk4 hT
          have HR := Lib.hid hrow
          have HB := Lib.hid hB
          have HA3 := Lib.hid hA3
          clear hA hk4 hA3 hT hB hrow
          go_wp2_with (go_at_call 17; refine K5.out.mono ?_; rintro e w8 ⟨rfl, t8, b8⟩)
          have B8 := Lib.hid (HB.out.trans b8.toBelow)
          have R8 := Lib.hid (b8.still _ _ _ _ HR.out (by decide))
          have T8 := Lib.hid t8
          clear t8 b8
          go_loopw [24, 25, 26, 27] (fun vi _ _ _ wr => ∃ (k : Nat) (L : List PR), vi = .int .i64 k ∧ k ≤ j ∧ rise3 ids high (j - k) k L = true ∧ wr.heap[g]? = some (.cells cur 9 (0, 0)) ∧ TabAt wr w.heap.size T M bl6 L ∧ Below w.heap.size w wr) (fun vi _ _ _ _ => j - (intOf vi).toNat)
          case atStart => exact ⟨0, L4, rfl, by omega, by rw [Nat.sub_zero]; exact HA3.out, R8.out, T8.out, B8.out⟩
          case round =>
            obtain ⟨k, L, rfl, hk1, hA, hrow, hT, hB⟩ := hrel
            by_cases hk : k < j
            · obtain ⟨f, hf⟩ : ∃ f, j - k = f + 1 := ⟨j - k - 1, by omega⟩
              rw [hf] at hA
              obtain ⟨s, L5, hw, hs, hn⟩ := rise3_step hA
              have hf1 : j - (k + 1) = f := by omega
              rw [← hf1] at hn
              have hcu : cur[k]? = some (.string s) := by
                rw [HCU.out k (by omega)]
                rw [List.getElem?_eq_getElem (by omega)] at hs
                cases hs
                rfl
              have K6 : Hid (Calls Tryd.prog 17 #[.pointer (some ⟨T, 0, none⟩), .string oneB] wr fun e w' => e = .returned (.tuple #[.string s, .int .i64 k, .int .i64 0]) ∧ TabAt w' w.heap.size T M bl6 L5 ∧ Bel w.heap.size wr w') := waitK_call hw hT
              have HR := Lib.hid hrow
              have HB := Lib.hid hB
              have HN := Lib.hid hn
              have HCK := Lib.hid hcu
              clear hA hf hf1 hrow hT hB hw hs hn hcu
              go_wp2_with (go_at_call 17; refine K6.out.mono ?_; rintro e w9 ⟨rfl, t9, b9⟩; have R9 := Lib.hid (b9.still _ _ _ _ HR.out (by decide)); have zc : w9.cell? ⟨g, k, none⟩ = some (.string s) := by (rw [cell_of_row _ _ _ _ 9 (0, 0) R9.out]; exact HCK.out))
              go_roundw
              case rel => exact ⟨k + 1, L5, by push_cast; rfl, by omega, HN.out, R9.out, t9, HB.out.trans b9.toBelow⟩
              case measure => simp [intOf]; omega
            · obtain rfl : k = j := by omega
              rw [Nat.sub_self] at hA
              obtain ⟨s3, st3, L5, L6, L7, hw1, he, hw2⟩ := rise3_end hA
              have K7 : Hid (Calls Tryd.prog 17 #[.pointer (some ⟨T, 0, none⟩), .string oneB] wr fun e w' => e = .returned (.tuple #[.string s3, .int .i64 st3, .int .i64 63]) ∧ TabAt w' w.heap.size T M bl6 L5 ∧ Bel w.heap.size wr w') := waitK_call hw1 hT
              have K8 : Hid (∀ w1, TabAt w1 w.heap.size T M bl6 L5 → Calls Tryd.prog 16 #[.pointer (some ⟨T, 0, none⟩), .string high, .int .i64 9] w1 fun e w' => e = .returned (.int .i64 0) ∧ TabAt w' w.heap.size T M bl6 L6 ∧ Bel w.heap.size w1 w') := fun w1 h => exitK_call he h
              have K9 : Hid (∀ w1, TabAt w1 w.heap.size T M bl6 L6 → Calls Tryd.prog 17 #[.pointer (some ⟨T, 0, none⟩), .string b11] w1 fun e w' => e = .returned (.tuple #[.string high, .int .i64 9, .int .i64 0]) ∧ TabAt w' w.heap.size T M bl6 L7 ∧ Bel w.heap.size w1 w') := fun w1 h => waitK_call hw2 h
              have HB := Lib.hid hB
              obtain ⟨G0⟩ : Nonempty Nat := ⟨0⟩
              clear hA hrow hT hB hw1 he hw2
              go_wp2_with (first
                | (go_at_call 17; have G1 := G0; clear G0; refine K7.out.mono ?_; rintro e w9 ⟨rfl, t9, b9⟩)
                | (go_at_call 16; refine (K8.out _ t9).mono ?_; rintro e w10 ⟨rfl, t10, b10⟩)
                | (go_at_call 17; have G2 := G1; clear G1; refine (K9.out _ t10).mono ?_; rintro e w11 ⟨rfl, t11, b11'⟩; have B11 := Lib.hid (HB.out.trans (b9.trans (b10.trans b11')).toBelow))
                | (go_at_call 15; refine (awake_any _).mono ?_; rintro e w12 ⟨rfl, b12⟩))
              go_ret
              exact ⟨rfl, B11.out.trans (b12.mono B11.out.size)⟩
end Go.Proofs.YtmphnoabkmoafaaDoor
